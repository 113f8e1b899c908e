/-
  LookupHolds walked. No conditions.
-/
import Derived.Test.YtmjhaopkhceegaaZLkz
import Derived.Test.YtmjhaopkhceegaaZLkv
import Derived.Test.YtmjhaopkhceegaaZLkw
namespace Go.Sx
open Go.Proofs Go.Num
-- SY
-- TY: TYX, UX, guard_un, IOX, mv_fa, plain_s, plain_r, plain_p
set_option maxRecDepth 100000
set_option linter.unusedSimpArgs false
set_option pp.deepTerms true
set_option pp.maxSteps 100000
theorem mv_fa {x : AV} {v : Value} {F : World → Prop} {l : List AV} {az : List Arg} : movedE (x :: l) (.fa v F :: az) = movedE l az := by cases x with | o a => cases a <;> rfl | t l => rfl
set_option maxHeartbeats 4000000 in
theorem c_LookupHolds (s k : Int) (i t cs : List Nat) (β γ : Nat) (hβ : β < W256) (hγ : γ < W256) (hi : ∀ z ∈ i, z < W256) (ht : ∀ z ∈ t, z < W256) (hcs : ∀ z ∈ cs, z < W256)
    (hbi : i.length * 32 ≤ 140737488351232) (hbt : t.length * 32 ≤ 140737488351232) (hbc : cs.length * 32 ≤ 140737488351232) :
    Contract Try.prog 8 [.val (.int .i64 s), .val (.int .i64 k), .sl i.length 4 (LC eC i), .sl t.length 4 (LC eC t), .val (EN β), .val (EN γ), .sl cs.length 4 (LC eC cs)] [.val (.bool true)] := by
  cases d0 : decide (s < 0) with
  | true =>
    refine contract_of (N := _) (vars := _) (c := bodyOf Try.f8) Try.func8 (body_eq rfl) rfl rfl (by rfl) mixed _ _ trivial 1000 ?_
    simp only [bodyOf, Try.f8, Option.getD_some, argA, argE, List.length_cons, List.length_nil, Nat.reduceAdd, Nat.reduceSub, List.replicate, List.cons_append, List.nil_append]
    simp only [↓PX, SX, SYX, EY, simprocAttr, TYX, UX, guard_un, IOX, mv_fa, plain_s, plain_r, plain_p]
    refine CallVC.intro (c_alive17) trivial rfl rfl ?_
    simp only [↓PX, SX, SYX, EY, simprocAttr, TYX, UX, guard_un, IOX, mv_fa, plain_s, plain_r, plain_p, d0]
  | false =>
  cases d1 : decide (1 < s) with
  | true =>
    refine contract_of (N := _) (vars := _) (c := bodyOf Try.f8) Try.func8 (body_eq rfl) rfl rfl (by rfl) mixed _ _ trivial 1000 ?_
    simp only [bodyOf, Try.f8, Option.getD_some, argA, argE, List.length_cons, List.length_nil, Nat.reduceAdd, Nat.reduceSub, List.replicate, List.cons_append, List.nil_append]
    simp only [↓PX, SX, SYX, EY, simprocAttr, TYX, UX, guard_un, IOX, mv_fa, plain_s, plain_r, plain_p]
    refine CallVC.intro (c_alive17) trivial rfl rfl ?_
    simp only [↓PX, SX, SYX, EY, simprocAttr, TYX, UX, guard_un, IOX, mv_fa, plain_s, plain_r, plain_p, d0, d1]
  | false =>
  cases d2 : decide (k < 3) with
  | true =>
    refine contract_of (N := _) (vars := _) (c := bodyOf Try.f8) Try.func8 (body_eq rfl) rfl rfl (by rfl) mixed _ _ trivial 1000 ?_
    simp only [bodyOf, Try.f8, Option.getD_some, argA, argE, List.length_cons, List.length_nil, Nat.reduceAdd, Nat.reduceSub, List.replicate, List.cons_append, List.nil_append]
    simp only [↓PX, SX, SYX, EY, simprocAttr, TYX, UX, guard_un, IOX, mv_fa, plain_s, plain_r, plain_p]
    refine CallVC.intro (c_alive17) trivial rfl rfl ?_
    simp only [↓PX, SX, SYX, EY, simprocAttr, TYX, UX, guard_un, IOX, mv_fa, plain_s, plain_r, plain_p, d0, d1, d2]
  | false =>
  cases d3 : decide (5 < k) with
  | true =>
    refine contract_of (N := _) (vars := _) (c := bodyOf Try.f8) Try.func8 (body_eq rfl) rfl rfl (by rfl) mixed _ _ trivial 1000 ?_
    simp only [bodyOf, Try.f8, Option.getD_some, argA, argE, List.length_cons, List.length_nil, Nat.reduceAdd, Nat.reduceSub, List.replicate, List.cons_append, List.nil_append]
    simp only [↓PX, SX, SYX, EY, simprocAttr, TYX, UX, guard_un, IOX, mv_fa, plain_s, plain_r, plain_p]
    refine CallVC.intro (c_alive17) trivial rfl rfl ?_
    simp only [↓PX, SX, SYX, EY, simprocAttr, TYX, UX, guard_un, IOX, mv_fa, plain_s, plain_r, plain_p, d0, d1, d2, d3]
  | false =>
  cases d4 : decide ((100 : Int) < (i.length : Int)) with
  | true =>
    refine contract_of (N := _) (vars := _) (c := bodyOf Try.f8) Try.func8 (body_eq rfl) rfl rfl (by rfl) mixed _ _ trivial 1000 ?_
    simp only [bodyOf, Try.f8, Option.getD_some, argA, argE, List.length_cons, List.length_nil, Nat.reduceAdd, Nat.reduceSub, List.replicate, List.cons_append, List.nil_append]
    simp only [↓PX, SX, SYX, EY, simprocAttr, TYX, UX, guard_un, IOX, mv_fa, plain_s, plain_r, plain_p]
    refine CallVC.intro (c_alive17) trivial rfl rfl ?_
    simp only [↓PX, SX, SYX, EY, simprocAttr, TYX, UX, guard_un, IOX, mv_fa, plain_s, plain_r, plain_p, d0, d1, d2, d3, d4]
  | false =>
  cases d5 : decide ((100 : Int) < (t.length : Int)) with
  | true =>
    refine contract_of (N := _) (vars := _) (c := bodyOf Try.f8) Try.func8 (body_eq rfl) rfl rfl (by rfl) mixed _ _ trivial 1000 ?_
    simp only [bodyOf, Try.f8, Option.getD_some, argA, argE, List.length_cons, List.length_nil, Nat.reduceAdd, Nat.reduceSub, List.replicate, List.cons_append, List.nil_append]
    simp only [↓PX, SX, SYX, EY, simprocAttr, TYX, UX, guard_un, IOX, mv_fa, plain_s, plain_r, plain_p]
    refine CallVC.intro (c_alive17) trivial rfl rfl ?_
    simp only [↓PX, SX, SYX, EY, simprocAttr, TYX, UX, guard_un, IOX, mv_fa, plain_s, plain_r, plain_p, d0, d1, d2, d3, d4, d5]
  | false =>
    have g0 := of_decide_eq_false d0
    have g1 := of_decide_eq_false d1
    have g2 := of_decide_eq_false d2
    have g3 := of_decide_eq_false d3
    have g4 := of_decide_eq_false d4
    have g5 := of_decide_eq_false d5
    obtain ⟨q, rfl⟩ : ∃ q : Nat, k = (q : Int) := ⟨k.toNat, by omega⟩
    have hq : 3 ≤ q ∧ q ≤ 5 := by omega
    have hn8 : 8 ≤ 2 ^ q ∧ 2 ^ q ≤ 32 := by
      obtain ⟨h1, h2⟩ := hq
      have : q = 3 ∨ q = 4 ∨ q = 5 := by omega
      rcases this with rfl | rfl | rfl <;> decide
    have hk : kn s = true := by
      have : s = 0 ∨ s = 1 := by omega
      rcases this with rfl | rfl <;> rfl
    have hpt : ptO s q = true := by
      have : s = 0 ∨ s = 1 := by omega
      rw [ptO_iff]
      exact ⟨hk, by omega, by omega⟩
    have hpl : plE s q = 0 := plE_0.2 ⟨hk, by omega, by omega⟩
    have hsh := shl_i (k := q) (by omega)
    have hqm : ((q : Int) % 18446744073709551616).toNat = q := by omega
    have hpz := fun r (hr : r < 2 ^ q) => pl_pt (r := r) hpt hq.1 hq.2 hr
    have cpt := u_Points s q
    have ept : ptL s q = tab (2 ^ q) (pt s q) := by unfold ptL; rw [if_pos hpt, Int.toNat_natCast]; rfl
    rw [ept, tab_len] at cpt
    have hN : pdN q = 2 ^ q := by simp [pdN]
    obtain ⟨n, hn⟩ : ∃ n, 2 ^ q = n := ⟨_, rfl⟩
    rw [hn] at hN hn8 hsh hpz cpt
    obtain ⟨u, hu⟩ : ∃ u, n = u + 4 := ⟨n - 4, by omega⟩
    subst hu
    have w4 : IntKind.i64.wrap (((u + 4 : Nat) : Int) - 4) = (u : Int) := by rw [wI (by omega) (by omega)]; omega
    have cu := u_Permute s i t hi ht hbi hbt
    obtain ⟨p1, p2⟩ := pm_w (s := s) (x := i) (y := t)
    by_cases h0 : (pm s i t).2.2 = 0
    · by_cases hl0 : i.length = u
      · obtain ⟨L, hxy, hf, e, _⟩ := pm_ok h0
        have hal : (asc (rsd s i)).length = i.length := by rw [asc_len, rsd_len]
        have hml : (mtc none (asc (rsd s i)) L).length = i.length := by rw [mtc_len, hal]
        rw [e] at cu p2
        have cu : Contract Try.prog 12 [.val (.int .i64 s), .sl i.length 4 (LC eC i), .sl t.length 4 (LC eC t)] [.row 24 4 (asc (rsd s i)).length (LC eC (asc (rsd s i))), .row 24 4 (mtc none (asc (rsd s i)) L).length (LC eC (mtc none (asc (rsd s i)) L)), .val (.int .i64 0)] := cu
        have haw := asc_rw (s := s) (l := i)
        have hmw : ∀ z ∈ mtc none (asc (rsd s i)) L, z < W256 := p2
        obtain ⟨A, hA⟩ : ∃ A, asc (rsd s i) = A := ⟨_, rfl⟩
        obtain ⟨B, hB⟩ : ∃ B, mtc none (asc (rsd s i)) L = B := ⟨_, rfl⟩
        have b1 : ((i.length : Int) != (u : Int)) = false := by rw [hl0]; simp
        have hlc := fun A' N I T S B' M r hd h0 h1 h2 h3 => lc_zero (s := s) (u := u) (β := β) (γ := γ) (i := i) (t := t) (L := L) (A := A') (N := N) (I := I) (T := T) (S := S) (B := B') (M := M) (r := r) hk hxy hf hl0 hd h0 h1 h2 h3 (by omega)
        have hend := fun hd => pdZ_end (s := s) (β := β) (γ := γ) (i := i) (t := t) (L := L) (pr_of hk) hxy hf hd
        rw [hB, hA] at hlc hend
        rw [hB, hA] at cu
        rw [hA] at haw hal
        rw [hB] at hmw hml
        rw [hal, hml] at cu
        refine contract_of (N := _) (vars := _) (c := bodyOf Try.f8) Try.func8 (body_eq rfl) rfl rfl (by rfl) mixed _ _ trivial 1000 ?_
        simp only [bodyOf, Try.f8, Option.getD_some, argA, argE, List.length_cons, List.length_nil, Nat.reduceAdd, Nat.reduceSub, List.replicate, List.cons_append, List.nil_append]
        simp only [↓PX, SX, SYX, EY, simprocAttr, TYX, UX, guard_un, IOX, mv_fa, plain_s, plain_r, plain_p]
        refine CallVC.intro (c_alive17) trivial rfl rfl ?_
        simp only [↓PX, SX, SYX, EY, simprocAttr, TYX, UX, guard_un, IOX, mv_fa, plain_s, plain_r, plain_p, d0, d1, d2, d3, d4, d5]
        repeat (first | refine DrawVC.intro (by kernel_rfl) ?_ | refine And.intro (by omega) ?_ | exact trivial | simp only [↓PX, SX, SYX, EY, simprocAttr, TYX, UX, guard_un, IOX, mv_fa, plain_s, plain_r, plain_p, hqm, b_shl_iu, hsh, w4])
        refine CallVC.intro (c_CopyElems i (by omega)) ⟨(by simp only [argMatch, SX, SYX, EY, simprocAttr, and_self, List.length_append, List.length_map, List.length_set, TYX, UX, guard_un, IOX, mv_fa, plain_s, plain_r, plain_p]), trivial⟩ rfl rfl ?_
        simp only [↓PX, SX, SYX, EY, simprocAttr, TYX, UX, guard_un, IOX, mv_fa, plain_s, plain_r, plain_p]
        refine CallVC.intro (c_CopyElems t (by omega)) ⟨(by simp only [argMatch, SX, SYX, EY, simprocAttr, and_self, List.length_append, List.length_map, List.length_set, TYX, UX, guard_un, IOX, mv_fa, plain_s, plain_r, plain_p]), trivial⟩ rfl rfl ?_
        simp only [↓PX, SX, SYX, EY, simprocAttr, TYX, UX, guard_un, IOX, mv_fa, plain_s, plain_r, plain_p]
        refine CallVC.intro (cu) ⟨rfl, (by simp only [argMatch, SX, SYX, EY, simprocAttr, and_self, List.length_append, List.length_map, List.length_set, TYX, UX, guard_un, IOX, mv_fa, plain_s, plain_r, plain_p, b1]), (by simp only [argMatch, SX, SYX, EY, simprocAttr, and_self, List.length_append, List.length_map, List.length_set, TYX, UX, guard_un, IOX, mv_fa, plain_s, plain_r, plain_p, b1]), trivial⟩ rfl rfl ?_
        simp only [↓PX, SX, SYX, EY, simprocAttr, TYX, UX, guard_un, IOX, mv_fa, plain_s, plain_r, plain_p, b1]
        refine CallVC.intro (c_CopyElems cs (by omega)) ⟨(by simp only [argMatch, SX, SYX, EY, simprocAttr, and_self, List.length_append, List.length_map, List.length_set, TYX, UX, guard_un, IOX, mv_fa, plain_s, plain_r, plain_p]), trivial⟩ rfl rfl ?_
        simp only [↓PX, SX, SYX, EY, simprocAttr, TYX, UX, guard_un, IOX, mv_fa, plain_s, plain_r, plain_p]
        refine CallVC.inline (N := _) (vars := _) (c := bodyOf Try.f22) Try.func22 (body_eq rfl) rfl rfl (by rfl) mixed (by rfl) 1 (by rfl) ?_
        simp only [bodyOf, Try.f22, Option.getD_some, List.length_cons, List.length_nil, Nat.reduceAdd, Nat.reduceSub, List.replicate, List.cons_append, List.nil_append]
        simp only [↓PX, SX, SYX, EY, simprocAttr, TYX, UX, guard_un, IOX, mv_fa, plain_s, plain_r, plain_p]
        refine CallVC.intro (u_Clone cs (by omega)) ⟨(by simp only [argMatch, SX, SYX, EY, simprocAttr, and_self, List.length_append, List.length_map, List.length_set, TYX, UX, guard_un, IOX, mv_fa, plain_s, plain_r, plain_p]), trivial⟩ rfl rfl ?_
        simp only [↓PX, SX, SYX, EY, simprocAttr, TYX, UX, guard_un, IOX, mv_fa, plain_s, plain_r, plain_p]
        refine RawVC.name 4 255 rfl rfl fun y hy => ?_
        obtain ⟨w9, hy9⟩ := hy
        obtain ⟨o7, k7⟩ := reads_one hy9
        have k8 : y.cells.toList = [y] := by rw [k7]
        have cp := u_Product s q β γ i t A B cs y hβ hγ hi ht haw hmw hcs (by omega) (by omega) (by omega) (by omega) hbc ⟨w9, hy9⟩
        rw [hal, hml] at cp
        have hE : pdE s q β γ i t A B cs = 100 ∨ pdE s q β γ i t A B cs = 81 ∨ (pdE s q β γ i t A B cs = 0 ∧ pdBad s β γ A B u = false ∧ 3 ≤ cs.length) := by
          unfold pdE
          rw [if_pos hk, if_pos (by omega), if_pos (by rw [hN]; omega), hN, Nat.add_sub_cancel]
          cases pdBad s β γ A B u with
          | true => exact .inl rfl
          | false =>
            by_cases h3 : cs.length < 3
            · right; left; rw [if_pos h3]; rfl
            · right; right; rw [if_neg h3]; exact ⟨rfl, rfl, by omega⟩
        simp only [↓PX, SX, SYX, EY, simprocAttr, TYX, UX, guard_un, IOX, mv_fa, plain_s, plain_r, plain_p, o7, k7, k8]
        refine DrawVC.only 23 (by kernel_rfl) ?_
        simp only [↓PX, SX, SYX, EY, simprocAttr, TYX, UX, guard_un, IOX, mv_fa, plain_s, plain_r, plain_p]
        refine CallVC.intro (c_CopyElems i (by omega)) ⟨(by simp only [argMatch, SX, SYX, EY, simprocAttr, and_self, List.length_append, List.length_map, List.length_set, TYX, UX, guard_un, IOX, mv_fa, plain_s, plain_r, plain_p]), trivial⟩ rfl rfl ?_
        simp only [↓PX, SX, SYX, EY, simprocAttr, TYX, UX, guard_un, IOX, mv_fa, plain_s, plain_r, plain_p]
        refine CallVC.intro (c_CopyElems t (by omega)) ⟨(by simp only [argMatch, SX, SYX, EY, simprocAttr, and_self, List.length_append, List.length_map, List.length_set, TYX, UX, guard_un, IOX, mv_fa, plain_s, plain_r, plain_p]), trivial⟩ rfl rfl ?_
        simp only [↓PX, SX, SYX, EY, simprocAttr, TYX, UX, guard_un, IOX, mv_fa, plain_s, plain_r, plain_p]
        refine CallVC.give cp ⟨⟨rfl, ents_of 255 rfl (fun h => by cases h) (fun _ h => h)⟩, rfl, (by simp only [argMatch, SX, SYX, EY, simprocAttr, and_self, hal, hml, TYX, UX, guard_un, IOX]), (by simp only [argMatch, SX, SYX, EY, simprocAttr, and_self, hal, hml, TYX, UX, guard_un, IOX]), (by simp only [argMatch, SX, SYX, EY, simprocAttr, and_self, hal, hml, TYX, UX, guard_un, IOX]), (by simp only [argMatch, SX, SYX, EY, simprocAttr, and_self, hal, hml, TYX, UX, guard_un, IOX]), rfl, rfl, (by simp only [argMatch, boxCells, List.drop_zero, SX, SYX, EY, simprocAttr, and_self, List.isEmpty_cons, TYX, UX, guard_un, IOX]), trivial⟩ rfl (by simp [refs]) ?_
        rcases hE with h | h | ⟨h, hbad, hc3⟩
        · repeat (first | refine DrawVC.intro (by kernel_rfl) ?_ | refine And.intro (by omega) ?_ | exact trivial | simp only [↓PX, SX, SYX, EY, simprocAttr, TYX, UX, guard_un, IOX, mv_fa, plain_s, plain_r, plain_p, h])
        · repeat (first | refine DrawVC.intro (by kernel_rfl) ?_ | refine And.intro (by omega) ?_ | exact trivial | simp only [↓PX, SX, SYX, EY, simprocAttr, TYX, UX, guard_un, IOX, mv_fa, plain_s, plain_r, plain_p, h])
        · have hd : ∀ j, j < u → pdD s β γ A B j ≠ 0 := by
            intro j hj h9
            have : pdBad s β γ A B u = true := List.any_eq_true.2 ⟨j, List.mem_range.2 hj, by rw [h9]; rfl⟩
            rw [this] at hbad; cases hbad
          have hz1 : pdZ s β γ i t A B u = 1 := by
            have h8 := hend (by rw [hl0]; exact hd)
            rw [hl0, ← κ_one, κ_inj, Nat.mod_eq_of_lt (pr_of hk).1] at h8
            obtain ⟨v, hv⟩ : ∃ v, u = v + 1 := ⟨u - 1, by omega⟩
            rw [hv] at h8 ⊢
            simp only [pdZ] at h8 ⊢
            rwa [Nat.mod_mod] at h8
          obtain ⟨Z, hZ⟩ : ∃ Z, pdL s q β γ i t A B cs = Z := ⟨_, rfl⟩
          have eZ : Z = tab (u + 1) (pdZ s β γ i t A B) ++ (cs.take 3).map (· % md s) := by
            rw [← hZ]; unfold pdL; rw [h, if_pos rfl, hN, show u + 4 - 3 = u + 1 by omega]
          have hZl : Z.length = u + 4 := by
            rw [eZ, List.length_append, tab_len, List.length_map, List.length_take]; omega
          have hZg : ∀ r, r ≤ u → Z.getD r 0 = pdZ s β γ i t A B r := by
            intro r hr
            rw [eZ, List.getD_eq_getElem?_getD, List.getElem?_append_left (by rw [tab_len]; omega), ← List.getD_eq_getElem?_getD, tab_at (by omega)]
          have hZw : ∀ x ∈ Z, x < W256 := by
            intro x hx
            rw [eZ, List.mem_append] at hx
            rcases hx with hx | hx
            · exact tab_w (fun _ => pdZ_w _ _ _ _ _ _ _ _) x hx
            · obtain ⟨_, _, rfl⟩ := List.mem_map.1 hx; exact md_w s _
          have ldu := eL_ld (l := Z) (j := u) (by omega)
          rw [hZg u (by omega), hz1] at ldu
          have hlP : (tab (u + 4) (pt s q)).length = u + 4 := tab_len
          have e1 := eqN_self (a := 1)
          repeat (first | refine DrawVC.intro (by kernel_rfl) ?_ | refine And.intro (by omega) ?_ | exact trivial | simp only [↓PX, SX, SYX, EY, simprocAttr, TYX, UX, guard_un, IOX, mv_fa, plain_s, plain_r, plain_p, h, hZ, hZl])
          refine CallVC.intro (cpt) ⟨rfl, rfl, trivial⟩ rfl rfl ?_
          simp only [↓PX, SX, SYX, EY, simprocAttr, TYX, UX, guard_un, IOX, mv_fa, plain_s, plain_r, plain_p, hZl, bne_self_eq_false, ldu, e1]
          repeat (first | refine DrawVC.intro (by kernel_rfl) ?_ | refine And.intro (by omega) ?_ | exact trivial | simp only [↓PX, SX, SYX, EY, simprocAttr, TYX, UX, guard_un, IOX, mv_fa, plain_s, plain_r, plain_p, hZl, hlP, bne_self_eq_false, ldu, e1])
          refine loop_hav ?_
          simp only [↓PX, SX, SYX, EY, simprocAttr, TYX, UX, guard_un, IOX, mv_fa, plain_s, plain_r, plain_p]
          refine loop_go mixed (by trivial) (γ := Nat) (fun r => r ≤ u + 4) (fun r => u + 4 - r) (fun r => [(25, iv r)]) (fun r => []) 0 (Nat.zero_le _) (St.le_of id (by simp [-List.getD_eq_getElem?_getD, SYX, iv, Tle, AVle, A0le, Mem.get]) (by simp [-List.getD_eq_getElem?_getD, SYX, Mle, Ele, Hle, Tle, AVle, A0le, Mem.get]) (by simp [SYX]) (by simp [SYX])) ?_
          intro r hr
          by_cases hrn : r < u + 4
          · have b0 : decide ((r : Int) < ((u + 4 : Nat) : Int)) = true := decide_eq_true (by omega)
            have ldp := eL_ld (l := tab (u + 4) (pt s q)) (j := r) (by rw [hlP]; omega)
            rw [tab_at hrn] at ldp
            have cpl := u_Place s q (pt s q r) (pw_w (by decide) _)
            rw [hpz r hrn, hpl, Nat.add_sub_cancel] at cpl
            unfold SN at cpl
            have ci := c_at s i r hi (by omega) (by omega)
            have ct := c_at s t r ht (by omega) (by omega)
            have ca := c_at s A r haw (by omega) (by omega)
            have cm := c_at s B r hmw (by omega) (by omega)
            have cb := c_at s A ((r + (u + 3)) % (u + 4)) haw (by omega) (by have := Nat.mod_lt (r + (u + 3)) (show 0 < u + 4 by omega); omega)
            have w1 : IntKind.i64.wrap ((r : Int) + ((u + 4 : Nat) : Int)) = ((r + (u + 4) : Nat) : Int) := by rw [wI (by omega) (by omega)]; omega
            have w2 : IntKind.i64.wrap (((r + (u + 4) : Nat) : Int) - 1) = ((r + (u + 3) : Nat) : Int) := by rw [wI (by omega) (by omega)]; omega
            have w3 : IntKind.i64.wrap ((r : Int) + 1) = ((r + 1 : Nat) : Int) := wS (by omega)
            rw [hal] at ca cb
            rw [hml] at cm
            repeat (first | refine DrawVC.intro (by kernel_rfl) ?_ | refine And.intro (by omega) ?_ | exact trivial | simp only [↓PX, SX, SYX, EY, simprocAttr, TYX, UX, guard_un, IOX, mv_fa, plain_s, plain_r, plain_p, b0, ldp, hlP])
            refine CallVC.intro (cpl) ⟨rfl, rfl, rfl, trivial⟩ rfl rfl ?_
            simp only [↓PX, SX, SYX, EY, simprocAttr, TYX, UX, guard_un, IOX, mv_fa, plain_s, plain_r, plain_p]
            repeat (first | refine DrawVC.intro (by kernel_rfl) ?_ | refine And.intro (by omega) ?_ | exact trivial | simp only [↓PX, SX, SYX, EY, simprocAttr, TYX, UX, guard_un, IOX, mv_fa, plain_s, plain_r, plain_p, b0])
            refine CallVC.intro (ci) ⟨rfl, (by simp only [argMatch, SX, SYX, EY, simprocAttr, and_self, List.length_append, List.length_map, List.length_set, TYX, UX, guard_un, IOX, mv_fa, plain_s, plain_r, plain_p]), rfl, trivial⟩ rfl rfl ?_
            simp only [↓PX, SX, SYX, EY, simprocAttr, TYX, UX, guard_un, IOX, mv_fa, plain_s, plain_r, plain_p]
            refine CallVC.intro (ct) ⟨rfl, (by simp only [argMatch, SX, SYX, EY, simprocAttr, and_self, List.length_append, List.length_map, List.length_set, TYX, UX, guard_un, IOX, mv_fa, plain_s, plain_r, plain_p]), rfl, trivial⟩ rfl rfl ?_
            simp only [↓PX, SX, SYX, EY, simprocAttr, TYX, UX, guard_un, IOX, mv_fa, plain_s, plain_r, plain_p]
            refine CallVC.intro (ca) ⟨rfl, (by simp only [argMatch, SX, SYX, EY, simprocAttr, and_self, List.length_append, List.length_map, List.length_set, TYX, UX, guard_un, IOX, mv_fa, plain_s, plain_r, plain_p, hal]), rfl, trivial⟩ rfl rfl ?_
            simp only [↓PX, SX, SYX, EY, simprocAttr, TYX, UX, guard_un, IOX, mv_fa, plain_s, plain_r, plain_p, hal]
            have wr : ((r + (u + 3) : Nat) : Int).tmod ((u + 4 : Nat) : Int) = (((r + (u + 3)) % (u + 4) : Nat) : Int) := rfl
            have wr2 : ((r + 1 : Nat) : Int).tmod ((u + 4 : Nat) : Int) = (((r + 1) % (u + 4) : Nat) : Int) := rfl
            have wn : (((u + 4 : Nat) : Int) == 0) = false := by rw [beq_eq_false_iff_ne]; omega
            have ldz : List.take 4 (List.drop (r * 4) (LC eC Z)) = [u64 (L0 (Z.getD r 0)), u64 (L1 (Z.getD r 0)), u64 (L2 (Z.getD r 0)), u64 (L3 (Z.getD r 0))] := LC_at eC_len (x := Z.getD r 0) (by simp [List.getD, List.getElem?_eq_getElem (show r < Z.length by omega)])
            have hm1 : (r + 1) % (u + 4) < u + 4 := Nat.mod_lt _ (by omega)
            have ldy : List.take 4 (List.drop ((r + 1) % (u + 4) * 4) (LC eC Z)) = [u64 (L0 (Z.getD ((r + 1) % (u + 4)) 0)), u64 (L1 (Z.getD ((r + 1) % (u + 4)) 0)), u64 (L2 (Z.getD ((r + 1) % (u + 4)) 0)), u64 (L3 (Z.getD ((r + 1) % (u + 4)) 0))] := LC_at eC_len (x := Z.getD ((r + 1) % (u + 4)) 0) (by simp [List.getD, List.getElem?_eq_getElem (show (r + 1) % (u + 4) < Z.length by omega)])
            repeat (first | refine DrawVC.intro (by kernel_rfl) ?_ | refine And.intro (by omega) ?_ | exact trivial | simp only [↓PX, SX, SYX, EY, simprocAttr, TYX, UX, guard_un, IOX, mv_fa, plain_s, plain_r, plain_p, w1, w2, wr])
            refine CallVC.intro (cb) ⟨rfl, (by simp only [argMatch, SX, SYX, EY, simprocAttr, and_self, List.length_append, List.length_map, List.length_set, TYX, UX, guard_un, IOX, mv_fa, plain_s, plain_r, plain_p, hal]), rfl, trivial⟩ rfl rfl ?_
            simp only [↓PX, SX, SYX, EY, simprocAttr, TYX, UX, guard_un, IOX, mv_fa, plain_s, plain_r, plain_p, hal]
            refine CallVC.intro (cm) ⟨rfl, (by simp only [argMatch, SX, SYX, EY, simprocAttr, and_self, List.length_append, List.length_map, List.length_set, TYX, UX, guard_un, IOX, mv_fa, plain_s, plain_r, plain_p, hml]), rfl, trivial⟩ rfl rfl ?_
            simp only [↓PX, SX, SYX, EY, simprocAttr, TYX, UX, guard_un, IOX, mv_fa, plain_s, plain_r, plain_p, hml]
            have e0 : Z.getD r 0 < W256 := by
              rw [List.getD_eq_getElem?_getD, List.getElem?_eq_getElem (show r < Z.length by omega)]
              exact hZw _ (List.getElem_mem _)
            have e2 : Z.getD ((r + 1) % (u + 4)) 0 < W256 := by
              rw [List.getD_eq_getElem?_getD, List.getElem?_eq_getElem (show (r + 1) % (u + 4) < Z.length by omega)]
              exact hZw _ (List.getElem_mem _)
            have hu4 : 4 ≤ u := by omega
            have ea : ∀ j, j < u → atN s A j = A.getD j 0 := fun j hj => by unfold atN; rw [if_pos (by omega)]
            have eb : ∀ j, j < u → atN s B j = B.getD j 0 := fun j hj => by unfold atN; rw [if_pos (by omega)]
            have ei : ∀ j, j < u → atN s i j = i.getD j 0 := fun j hj => by unfold atN; rw [if_pos (by omega)]
            have et : ∀ j, j < u → atN s t j = t.getD j 0 := fun j hj => by unfold atN; rw [if_pos (by omega)]
            have hlr := hlc (Z.getD r 0) (Z.getD ((r + 1) % (u + 4)) 0) (atN s i r) (atN s t r) (atN s A r) (atN s A ((r + (u + 3)) % (u + 4))) (atN s B r) r hd
              (fun h => by subst h; exact ⟨by rw [hZg 0 (by omega)]; rfl, ea 0 (by omega), eb 0 (by omega)⟩)
              (fun h => by subst h; rw [hZg r (by omega), hz1])
              (fun h => ⟨hZg r (by omega), by rw [Nat.mod_eq_of_lt (by omega), hZg (r + 1) (by omega)], ei r h, et r h, ea r h, eb r h⟩)
              (fun h h1 => by
                have e3 : (r + (u + 3)) % (u + 4) = r - 1 := by
                  rw [show r + (u + 3) = (r - 1) + (u + 4) by omega, Nat.add_mod_right, Nat.mod_eq_of_lt (by omega)]
                rw [e3, ea (r - 1) (by omega)])
            have cl := u_LChecks s (pt s q r) (if r = 0 then 1 else 0) (if r = u then 1 else 0) (if r < u then 1 else 0) (atN s i r) (atN s t r) (atN s A r) (atN s A ((r + (u + 3)) % (u + 4))) (atN s B r) (Z.getD r 0) (Z.getD ((r + 1) % (u + 4)) 0) β γ
              (by split <;> decide) (by split <;> decide) (by split <;> decide) (atN_w hi _) (atN_w ht _) (atN_w haw _) (atN_w haw _) (atN_w hmw _) e0 e2 hβ hγ
            rw [hlr] at cl
            unfold SN KN at cl
            obtain ⟨R, hR⟩ : ∃ R, R = [0, 0, 0, 0, 0] := ⟨_, rfl⟩
            rw [← hR] at cl
            have hRl : R.length = 5 := by rw [hR]; rfl
            rw [hRl] at cl
            repeat (first | refine DrawVC.intro (by kernel_rfl) ?_ | refine And.intro (by omega) ?_ | exact trivial | simp only [↓PX, SX, SYX, EY, simprocAttr, TYX, UX, guard_un, IOX, mv_fa, plain_s, plain_r, plain_p, w3, wr2, ldz, ldy])
            refine CallVC.intro (cl) ⟨rfl, rfl, rfl, rfl, rfl, trivial⟩ rfl rfl ?_
            simp only [↓PX, SX, SYX, EY, simprocAttr, TYX, UX, guard_un, IOX, mv_fa, plain_s, plain_r, plain_p, b_agg]
            refine loop_hav ?_
            simp only [↓PX, SX, SYX, EY, simprocAttr, TYX, UX, guard_un, IOX, mv_fa, plain_s, plain_r, plain_p]
            refine loop_go mixed (by trivial) (γ := Nat) (fun j => j ≤ 5) (fun j => 5 - j) (fun j => [(30, iv j)]) (fun j => []) 0 (Nat.zero_le _) (St.le_of id (by simp [-List.getD_eq_getElem?_getD, SYX, iv, Tle, AVle, A0le, Mem.get]) (by simp [-List.getD_eq_getElem?_getD, SYX, Mle, Ele, Hle, Tle, AVle, A0le, Mem.get]) (by simp [SYX]) (by simp [SYX])) ?_
            intro j hj
            by_cases hj5 : j < 5
            · have c0 : decide ((j : Int) < 5) = true := decide_eq_true (by omega)
              have ldR := eL_ld (l := R) (j := j) (by omega)
              have eR : R.getD j 0 = 0 := by
                rw [hR]
                have : j = 0 ∨ j = 1 ∨ j = 2 ∨ j = 3 ∨ j = 4 := by omega
                rcases this with rfl | rfl | rfl | rfl | rfl <;> rfl
              rw [eR] at ldR
              have e5 := eqN_self (a := 0)
              have w5 : IntKind.i64.wrap ((j : Int) + 1) = ((j + 1 : Nat) : Int) := wS (by omega)
              have hjx : j * 4 + 4 ≤ R.length * 4 := by omega
              have hjy : (j : Int) < 5 := by omega
              repeat (first | refine DrawVC.intro (by kernel_rfl) ?_ | refine And.intro (by omega) ?_ | exact trivial | simp only [↓PX, SX, SYX, EY, simprocAttr, TYX, UX, guard_un, IOX, mv_fa, plain_s, plain_r, plain_p, c0, hRl, hjx, hjy, ldR, e5, w5])
              exact ⟨j + 1, by omega, by omega, (St.le_of id (by simp [-List.getD_eq_getElem?_getD, SYX, iv, Tle, AVle, A0le, Mem.get]) (by simp [-List.getD_eq_getElem?_getD, SYX, Mle, Ele, Hle, Tle, AVle, A0le, Mem.get]) (by simp [SYX]) (by simp [SYX]))⟩
            · have c0 : decide ((j : Int) < 5) = false := decide_eq_false (by omega)
              repeat (first | refine DrawVC.intro (by kernel_rfl) ?_ | refine And.intro (by omega) ?_ | exact trivial | simp only [↓PX, SX, SYX, EY, simprocAttr, TYX, UX, guard_un, IOX, mv_fa, plain_s, plain_r, plain_p, c0, w3])
              exact ⟨r + 1, by omega, by omega, (St.le_of id (by simp [-List.getD_eq_getElem?_getD, SYX, iv, Tle, AVle, A0le, Mem.get]) (by simp [-List.getD_eq_getElem?_getD, SYX, Mle, Ele, Hle, Tle, AVle, A0le, Mem.get]) (by simp [SYX]) (by simp [SYX]))⟩
          · have b0 : decide ((r : Int) < ((u + 4 : Nat) : Int)) = false := decide_eq_false (by omega)
            repeat (first | refine DrawVC.intro (by kernel_rfl) ?_ | refine And.intro (by omega) ?_ | exact trivial | simp only [↓PX, SX, SYX, EY, simprocAttr, TYX, UX, guard_un, IOX, mv_fa, plain_s, plain_r, plain_p, b0])
      · have b1 : ((i.length : Int) != (u : Int)) = true := by rw [bne_iff_ne]; omega
        rw [h0] at cu
        refine contract_of (N := _) (vars := _) (c := bodyOf Try.f8) Try.func8 (body_eq rfl) rfl rfl (by rfl) mixed _ _ trivial 1000 ?_
        simp only [bodyOf, Try.f8, Option.getD_some, argA, argE, List.length_cons, List.length_nil, Nat.reduceAdd, Nat.reduceSub, List.replicate, List.cons_append, List.nil_append]
        simp only [↓PX, SX, SYX, EY, simprocAttr, TYX, UX, guard_un, IOX, mv_fa, plain_s, plain_r, plain_p]
        refine CallVC.intro (c_alive17) trivial rfl rfl ?_
        simp only [↓PX, SX, SYX, EY, simprocAttr, TYX, UX, guard_un, IOX, mv_fa, plain_s, plain_r, plain_p, d0, d1, d2, d3, d4, d5]
        repeat (first | refine DrawVC.intro (by kernel_rfl) ?_ | refine And.intro (by omega) ?_ | exact trivial | simp only [↓PX, SX, SYX, EY, simprocAttr, TYX, UX, guard_un, IOX, mv_fa, plain_s, plain_r, plain_p, hqm, b_shl_iu, hsh, w4])
        refine CallVC.intro (c_CopyElems i (by omega)) ⟨(by simp only [argMatch, SX, SYX, EY, simprocAttr, and_self, List.length_append, List.length_map, List.length_set, TYX, UX, guard_un, IOX, mv_fa, plain_s, plain_r, plain_p]), trivial⟩ rfl rfl ?_
        simp only [↓PX, SX, SYX, EY, simprocAttr, TYX, UX, guard_un, IOX, mv_fa, plain_s, plain_r, plain_p]
        refine CallVC.intro (c_CopyElems t (by omega)) ⟨(by simp only [argMatch, SX, SYX, EY, simprocAttr, and_self, List.length_append, List.length_map, List.length_set, TYX, UX, guard_un, IOX, mv_fa, plain_s, plain_r, plain_p]), trivial⟩ rfl rfl ?_
        simp only [↓PX, SX, SYX, EY, simprocAttr, TYX, UX, guard_un, IOX, mv_fa, plain_s, plain_r, plain_p]
        refine CallVC.intro (cu) ⟨rfl, (by simp only [argMatch, SX, SYX, EY, simprocAttr, and_self, List.length_append, List.length_map, List.length_set, TYX, UX, guard_un, IOX, mv_fa, plain_s, plain_r, plain_p, b1]), (by simp only [argMatch, SX, SYX, EY, simprocAttr, and_self, List.length_append, List.length_map, List.length_set, TYX, UX, guard_un, IOX, mv_fa, plain_s, plain_r, plain_p, b1]), trivial⟩ rfl rfl ?_
        simp only [↓PX, SX, SYX, EY, simprocAttr, TYX, UX, guard_un, IOX, mv_fa, plain_s, plain_r, plain_p, b1]
    · have b3 : ((pm s i t).2.2 != 0) = true := bne_iff_ne.2 h0
      refine contract_of (N := _) (vars := _) (c := bodyOf Try.f8) Try.func8 (body_eq rfl) rfl rfl (by rfl) mixed _ _ trivial 1000 ?_
      simp only [bodyOf, Try.f8, Option.getD_some, argA, argE, List.length_cons, List.length_nil, Nat.reduceAdd, Nat.reduceSub, List.replicate, List.cons_append, List.nil_append]
      simp only [↓PX, SX, SYX, EY, simprocAttr, TYX, UX, guard_un, IOX, mv_fa, plain_s, plain_r, plain_p]
      refine CallVC.intro (c_alive17) trivial rfl rfl ?_
      simp only [↓PX, SX, SYX, EY, simprocAttr, TYX, UX, guard_un, IOX, mv_fa, plain_s, plain_r, plain_p, d0, d1, d2, d3, d4, d5]
      repeat (first | refine DrawVC.intro (by kernel_rfl) ?_ | refine And.intro (by omega) ?_ | exact trivial | simp only [↓PX, SX, SYX, EY, simprocAttr, TYX, UX, guard_un, IOX, mv_fa, plain_s, plain_r, plain_p, hqm, b_shl_iu, hsh, w4])
      refine CallVC.intro (c_CopyElems i (by omega)) ⟨(by simp only [argMatch, SX, SYX, EY, simprocAttr, and_self, List.length_append, List.length_map, List.length_set, TYX, UX, guard_un, IOX, mv_fa, plain_s, plain_r, plain_p]), trivial⟩ rfl rfl ?_
      simp only [↓PX, SX, SYX, EY, simprocAttr, TYX, UX, guard_un, IOX, mv_fa, plain_s, plain_r, plain_p]
      refine CallVC.intro (c_CopyElems t (by omega)) ⟨(by simp only [argMatch, SX, SYX, EY, simprocAttr, and_self, List.length_append, List.length_map, List.length_set, TYX, UX, guard_un, IOX, mv_fa, plain_s, plain_r, plain_p]), trivial⟩ rfl rfl ?_
      simp only [↓PX, SX, SYX, EY, simprocAttr, TYX, UX, guard_un, IOX, mv_fa, plain_s, plain_r, plain_p]
      refine CallVC.intro (cu) ⟨rfl, (by simp only [argMatch, SX, SYX, EY, simprocAttr, and_self, List.length_append, List.length_map, List.length_set, TYX, UX, guard_un, IOX, mv_fa, plain_s, plain_r, plain_p, b3]), (by simp only [argMatch, SX, SYX, EY, simprocAttr, and_self, List.length_append, List.length_map, List.length_set, TYX, UX, guard_un, IOX, mv_fa, plain_s, plain_r, plain_p, b3]), trivial⟩ rfl rfl ?_
      simp only [↓PX, SX, SYX, EY, simprocAttr, TYX, UX, guard_un, IOX, mv_fa, plain_s, plain_r, plain_p, b3]
end Go.Sx
