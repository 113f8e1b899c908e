/-
  The law's look at all rows. No conditions.
-/
import Derived.Test.YtgeliidjmefkgaaZPta
import Derived.Test.YtgeliidjmefkgaaZTab
import Derived.Test.YtgeliidjmefkgaaZFaf
namespace Go.Sx
open Go.Proofs Go.Num
-- SY
-- TY: TYX, UX, guard_un, IOX, mv_fa, plain_s, plain_r, plain_p
set_option maxRecDepth 100000
set_option linter.unusedSimpArgs false
set_option pp.deepTerms true
set_option pp.maxSteps 100000
/-- All rows have noughts alone. -/
def hoB (s : Int) (q β γ : Nat) (C S Z : List (List Nat)) : Bool := (List.range (2 ^ q)).all fun r => (ckT s q β γ C S Z r).all (· == 0)
theorem hoB_no {s : Int} {q β γ : Nat} {C S Z : List (List Nat)} {r i : Nat} (hr : r < 2 ^ q) (hi : i < (ckT s q β γ C S Z r).length) (h : (ckT s q β γ C S Z r).getD i 0 ≠ 0) : hoB s q β γ C S Z = false := by
  rw [Bool.eq_false_iff]
  intro h0
  have h1 := List.all_eq_true.1 (List.all_eq_true.1 h0 r (List.mem_range.2 hr)) _ (List.getElem_mem hi)
  rw [List.getD_eq_getElem?_getD, List.getElem?_eq_getElem hi] at h
  simp at h1 h
  exact h h1
theorem hoB_yes {s : Int} {q β γ : Nat} {C S Z : List (List Nat)} (h : ∀ r, r < 2 ^ q → ∀ i, i < (ckT s q β γ C S Z r).length → (ckT s q β γ C S Z r).getD i 0 = 0) : hoB s q β γ C S Z = true := by
  refine List.all_eq_true.2 fun r hr => List.all_eq_true.2 fun x hx => ?_
  obtain ⟨i, hi, rfl⟩ := List.mem_iff_getElem.1 hx
  have := h r (List.mem_range.1 hr) i hi
  rw [List.getD_eq_getElem?_getD, List.getElem?_eq_getElem hi] at this
  simpa using this
theorem tk_snoc {l : List Nat} {i : Nat} (h : i < l.length) : l.take i ++ [l.getD i 0] = l.take (i + 1) := by
  rw [List.take_add_one, List.getD_eq_getElem?_getD, List.getElem?_eq_getElem h]; rfl
theorem tb_len {C : List (List Nat)} {n i : Nat} (h : ∀ l ∈ C, l.length = n) (hi : i < C.length) : (C.getD i []).length = n := by
  rw [List.getD_eq_getElem?_getD, List.getElem?_eq_getElem hi]
  exact h _ (List.getElem_mem hi)
theorem zcT_w {q : Nat} {Z : List (List Nat)} (h : tbW Z) (r : Nat) : zsW (zcT q Z r) := by
  intro z hz
  obtain ⟨l, hl, rfl⟩ := List.mem_map.1 hz
  have key : ∀ j, l.getD j 0 < W256 := by
    intro j
    rw [List.getD_eq_getElem?_getD]
    cases h1 : l[j]? with
    | none => exact (by decide : (0 : Nat) < W256)
    | some y => exact h l hl y (List.mem_of_getElem? h1)
  exact ⟨key _, key _, key _⟩
set_option maxHeartbeats 3200000 in
theorem u_holds (s : Int) (q β γ : Nat) (C S Z : List (List Nat)) (cy sy zy : List Value) (hs : s = 0 ∨ s = 1) (hq : 3 ≤ q ∧ q ≤ 5) (hβ : β < W256) (hγ : γ < W256) (hC : tbW C) (hS : tbW S) (hZ : tbW Z) (lC : ∀ l ∈ C, l.length = 2 ^ q) (lS : ∀ l ∈ S, l.length = 2 ^ q) (lZ : ∀ l ∈ Z, l.length = 2 ^ q)
    (hCS : C.length = S.length) (hm : C.length ≤ 20) (hz : Z.length ≤ 20) (hne : ∀ r, r < 2 ^ q → 0 < (ckT s q β γ C S Z r).length) (hy9 : XB cy C ∧ XB sy S ∧ XB zy Z) :
    Contract Try.prog 65 [.fa (.int .i64 s) (fun w => TB cy C w ∧ TB sy S w ∧ TB zy Z w), .val (.int .i64 (q : Int)), .sl C.length 1 cy, .sl S.length 1 sy, .sl Z.length 1 zy, .val (EN β), .val (EN γ)] [.val (.bool (hoB s q β γ C S Z))] := by
  have hk : kn s = true := by rcases hs with rfl | rfl <;> rfl
  have hpt : ptO s q = true := by
    rw [ptO_iff]
    exact ⟨hk, by rcases hs with rfl | rfl <;> omega, by omega⟩
  have hpl : plE s q = 0 := plE_0.2 ⟨hk, by omega, by omega⟩
  have hsh := shl_i (k := q) (by omega)
  have hqm : ((q : Int) % 18446744073709551616).toNat = q := by omega
  have hpz := fun r (hr : r < 2 ^ q) => pl_pt (r := r) hpt hq.1 hq.2 hr
  have cpt := u_Points s q
  have ept : ptL s q = tab (2 ^ q) (pt s q) := by unfold ptL; rw [if_pos hpt, Int.toNat_natCast]; rfl
  rw [ept, tab_len] at cpt
  have hn8 : 8 ≤ 2 ^ q ∧ 2 ^ q ≤ 32 := by
    obtain ⟨h1, h2⟩ := hq
    have : q = 3 ∨ q = 4 ∨ q = 5 := by omega
    rcases this with rfl | rfl | rfl <;> decide
  obtain ⟨n, hn⟩ : ∃ n, 2 ^ q = n := ⟨_, rfl⟩
  have hck : ∀ r, ckT s q β γ C S Z r = ckL s (pt s q r) (if r = 0 then 1 else 0) (if r = n - 4 then 1 else 0) (if r < n - 4 then 1 else 0) (rwT C r) (rwT S r) (zcT q Z r) β γ := fun r => by unfold ckT; rw [hn]
  have hbN := fun r i (hr : r < 2 ^ q) hi h => hoB_no (s := s) (q := q) (β := β) (γ := γ) (C := C) (S := S) (Z := Z) (r := r) (i := i) hr hi h
  have hbY := hoB_yes (s := s) (q := q) (β := β) (γ := γ) (C := C) (S := S) (Z := Z)
  rw [hn] at hpz cpt hn8 hsh lC lS lZ hbN hbY hne
  obtain ⟨B, hB⟩ : ∃ B, hoB s q β γ C S Z = B := ⟨_, rfl⟩
  rw [hB] at hbN hbY ⊢
  refine contract_of (N := _) (vars := _) (c := bodyOf Try.f65) Try.func65 (body_eq rfl) rfl rfl (by rfl) mixed _ _ trivial 1000 ?_
  simp only [bodyOf, Try.f65, Option.getD_some, argA, argE, List.length_cons, List.length_nil, Nat.reduceAdd, Nat.reduceSub, List.replicate, List.cons_append, List.nil_append]
  simp only [↓PX, SX, SYX, EY, simprocAttr, TYX, UX, guard_un, IOX, mv_fa, plain_s, plain_r, plain_p]
  repeat (first | refine DrawVC.intro (by kernel_rfl) ?_ | refine And.intro (by omega) ?_ | exact trivial | simp only [↓PX, SX, SYX, EY, simprocAttr, TYX, UX, guard_un, IOX, mv_fa, plain_s, plain_r, plain_p, hqm, b_shl_iu, hsh])
  refine CallVC.intro (cpt) ⟨rfl, rfl, trivial⟩ rfl rfl ?_
  simp only [↓PX, SX, SYX, EY, simprocAttr, TYX, UX, guard_un, IOX, mv_fa, plain_s, plain_r, plain_p]
  repeat (first | refine DrawVC.intro (by kernel_rfl) ?_ | refine And.intro (by omega) ?_ | exact trivial | simp only [↓PX, SX, SYX, EY, simprocAttr, TYX, UX, guard_un, IOX, mv_fa, plain_s, plain_r, plain_p])
  have hlP : (tab n (pt s q)).length = n := tab_len
  refine loop_hav ?_
  simp only [↓PX, SX, SYX, EY, simprocAttr, TYX, UX, guard_un, IOX, mv_fa, plain_s, plain_r, plain_p]
  refine loop_go mixed (by trivial) (γ := Nat) (fun r => r ≤ n ∧ ∀ r', r' < r → ∀ i, i < (ckT s q β γ C S Z r').length → (ckT s q β γ C S Z r').getD i 0 = 0) (fun r => n - r) (fun r => [(19, iv r)]) (fun r => []) 0 ⟨Nat.zero_le _, fun _ h => by omega⟩ (St.le_of id (by simp [-List.getD_eq_getElem?_getD, SYX, iv, Tle, AVle, A0le, Mem.get]) (by simp [-List.getD_eq_getElem?_getD, SYX, Mle, Ele, Hle, Tle, AVle, A0le, Mem.get]) (by simp [SYX]) (by simp [SYX])) ?_
  rintro r ⟨hr, hz0⟩
  by_cases hrn : r < n
  · have b0 : decide ((r : Int) < (n : Int)) = true := decide_eq_true (by omega)
    have ldp := eL_ld (l := tab n (pt s q)) (j := r) (by rw [hlP]; omega)
    rw [tab_at hrn] at ldp
    have cpl := u_Place s q (pt s q r) (pw_w (by decide) _)
    rw [hpz r hrn, hpl] at cpl
    unfold SN at cpl
    repeat (first | refine DrawVC.intro (by kernel_rfl) ?_ | refine And.intro (by omega) ?_ | exact trivial | simp only [↓PX, SX, SYX, EY, simprocAttr, TYX, UX, guard_un, IOX, mv_fa, plain_s, plain_r, plain_p, b0, ldp, hlP])
    refine CallVC.intro (cpl) ⟨rfl, rfl, rfl, trivial⟩ rfl rfl ?_
    simp only [↓PX, SX, SYX, EY, simprocAttr, TYX, UX, guard_un, IOX, mv_fa, plain_s, plain_r, plain_p]
    repeat (first | refine DrawVC.intro (by kernel_rfl) ?_ | refine And.intro (by omega) ?_ | exact trivial | simp only [↓PX, SX, SYX, EY, simprocAttr, TYX, UX, guard_un, IOX, mv_fa, plain_s, plain_r, plain_p, b0])
    refine loop_hav ?_
    simp only [↓PX, SX, SYX, EY, simprocAttr, TYX, UX, guard_un, IOX, mv_fa, plain_s, plain_r, plain_p]
    refine loop_go mixed (by trivial) (γ := Nat) (fun i => i ≤ C.length) (fun i => C.length - i) (fun i => [(24, iv i), (22, .o (.r 155 i)), (23, .o (.r 163 i)), (56, .o .any), (57, .o .any)]) (fun i => [(155, .row 25 4 i (LC eC ((rwT C r).take i))), (163, .row 25 4 i (LC eC ((rwT S r).take i)))]) 0 (Nat.zero_le _) (St.le_of id (by simp [-List.getD_eq_getElem?_getD, SYX, iv, Tle, AVle, A0le, Mem.get, List.take_zero, LC]) (by simp [-List.getD_eq_getElem?_getD, SYX, Mle, Ele, Hle, Tle, AVle, A0le, Mem.get, List.take_zero, LC]) (by simp [SYX]) (by simp [SYX])) ?_
    intro i hi
    by_cases him : i < C.length
    · have b1 : decide ((i : Int) < (C.length : Int)) = true := decide_eq_true (by omega)
      have w1 := wS (j := i) (by omega)
      have lci := tb_len lC him
      have lsi := tb_len lS (i := i) (by omega)
      have fC : ∀ w, (TB cy C w ∧ TB sy S w ∧ TB zy Z w) → ReadsSlice w (cy.getD i undef) n 4 (LC eC (C.getD i [])) := fun w h => by have := h.1.2 i him; rwa [lci] at this
      have fS : ∀ w, (TB cy C w ∧ TB sy S w ∧ TB zy Z w) → ReadsSlice w (sy.getD i undef) n 4 (LC eC (S.getD i [])) := fun w h => by have := h.2.1.2 i (by omega); rwa [lsi] at this
      have ea : (rwT C r).take i ++ [(C.getD i []).getD r 0] = (rwT C r).take (i + 1) := by rw [← rwT_at]; exact tk_snoc (by rw [rwT_len]; omega)
      have es : (rwT S r).take i ++ [(S.getD i []).getD r 0] = (rwT S r).take (i + 1) := by rw [← rwT_at]; exact tk_snoc (by rw [rwT_len]; omega)
      have hcy : i < cy.length := by rw [hy9.1.1]; exact him
      obtain ⟨wc, rc⟩ := hy9.1.2 i him
      obtain ⟨ws, rs⟩ := hy9.2.1.2 i (by omega)
      rw [lci] at rc
      rw [lsi] at rs
      have hsy : i < sy.length := by rw [hy9.2.1.1]; omega
      repeat (first | refine DrawVC.intro (by kernel_rfl) ?_ | refine And.intro (by omega) ?_ | exact trivial | simp only [↓PX, SX, SYX, EY, simprocAttr, TYX, UX, guard_un, IOX, mv_fa, plain_s, plain_r, plain_p, b1, hcy])
      refine RawVC.idx rc hrn rfl rfl (by rfl) ?_
      simp only [↓PX, SX, SYX, EY, simprocAttr, TYX, UX, guard_un, IOX, mv_fa, plain_s, plain_r, plain_p]
      refine RawVC.ldE (ents_of 0 rfl (fun h => by cases h) fC) lci hrn rfl (by rfl) (by rfl) ?_
      repeat (first | refine DrawVC.intro (by kernel_rfl) ?_ | refine And.intro (by omega) ?_ | exact trivial | simp only [↓PX, SX, SYX, EY, simprocAttr, TYX, UX, guard_un, IOX, mv_fa, plain_s, plain_r, plain_p, hsy])
      refine RawVC.idx rs hrn rfl rfl (by rfl) ?_
      simp only [↓PX, SX, SYX, EY, simprocAttr, TYX, UX, guard_un, IOX, mv_fa, plain_s, plain_r, plain_p]
      refine RawVC.ldE (ents_of 0 rfl (fun h => by cases h) fS) lsi hrn rfl (by rfl) (by rfl) ?_
      repeat (first | refine DrawVC.intro (by kernel_rfl) ?_ | refine And.intro (by omega) ?_ | exact trivial | simp only [↓PX, SX, SYX, EY, simprocAttr, TYX, UX, guard_un, IOX, mv_fa, plain_s, plain_r, plain_p, w1])
      exact ⟨i + 1, by omega, by omega, (St.le_at [(155, 22), (163, 23)] (by simp [-List.getD_eq_getElem?_getD, SYX, iv, Tle, AVle, A0le, Mem.get, ren, idAt, idO, idA, List.map, ea, es]) (by simp [-List.getD_eq_getElem?_getD, SYX, Mle, Ele, Hle, Tle, AVle, A0le, Mem.get, ren, idAt, idO, idA, List.map, ea, es]) (by simp [SYX, ren, idAt, idO, idA, List.map, ea, es]) (by simp [SYX]))⟩
    · have b1 : decide ((i : Int) < (C.length : Int)) = false := decide_eq_false (by omega)
      have hi : i = C.length := by omega
      subst hi
      have tkC : (rwT C r).take C.length = rwT C r := by rw [← rwT_len (C := C) (r := r), List.take_length]
      have tkS : (rwT S r).take C.length = rwT S r := by rw [hCS, ← rwT_len (C := S) (r := r), List.take_length]
      have zn : ∀ j, j < Z.length → (Z.getD j []).length = n := fun j hj => tb_len lZ hj
      repeat (first | refine DrawVC.intro (by kernel_rfl) ?_ | refine And.intro (by omega) ?_ | exact trivial | simp only [↓PX, SX, SYX, EY, simprocAttr, TYX, UX, guard_un, IOX, mv_fa, plain_s, plain_r, plain_p, b1, tkC, tkS])
      refine loop_hav ?_
      simp only [↓PX, SX, SYX, EY, simprocAttr, TYX, UX, guard_un, IOX, mv_fa, plain_s, plain_r, plain_p]
      refine loop_go mixed (by trivial) (γ := Nat) (fun j => j ≤ Z.length) (fun j => Z.length - j) (fun j => [(26, iv j), (25, .o (.r 191 j)), (84, .o .any)]) (fun j => [(191, .row 99 12 j (LC cC ((zcT q Z r).take j)))]) 0 (Nat.zero_le _) (St.le_of id (by simp [-List.getD_eq_getElem?_getD, SYX, iv, Tle, AVle, A0le, Mem.get, List.take_zero, LC]) (by simp [-List.getD_eq_getElem?_getD, SYX, Mle, Ele, Hle, Tle, AVle, A0le, Mem.get, List.take_zero, LC]) (by simp [SYX]) (by simp [SYX])) ?_
      intro j hj
      by_cases hjz : j < Z.length
      · have b2 : decide ((j : Int) < (Z.length : Int)) = true := decide_eq_true (by omega)
        have w2 := wS (j := j) (by omega)
        have w3 := wS (j := r) (by omega)
        have w4 : IntKind.i64.wrap ((r : Int) + (n : Int)) = ((r + n : Nat) : Int) := by rw [wI (by omega) (by omega)]; omega
        have w5 : IntKind.i64.wrap (((r + n : Nat) : Int) - 4) = ((r + (n - 4) : Nat) : Int) := by rw [wI (by omega) (by omega)]; omega
        have wr1 : ((r + 1 : Nat) : Int).tmod (n : Int) = (((r + 1) % n : Nat) : Int) := rfl
        have wr2 : ((r + (n - 4) : Nat) : Int).tmod (n : Int) = (((r + (n - 4)) % n : Nat) : Int) := rfl
        have wn : ((n : Int) == 0) = false := by rw [beq_eq_false_iff_ne]; omega
        have hzy : j < zy.length := by rw [hy9.2.2.1]; omega
        have m1 : (r + 1) % n < n := Nat.mod_lt _ (by omega)
        have m2 : (r + (n - 4)) % n < n := Nat.mod_lt _ (by omega)
        have lzj := zn j hjz
        obtain ⟨wz, rz⟩ := hy9.2.2.2 j hjz
        rw [lzj] at rz
        have fZ : ∀ w, (TB cy C w ∧ TB sy S w ∧ TB zy Z w) → ReadsSlice w (zy.getD j undef) n 4 (LC eC (Z.getD j [])) := fun w h => by have := h.2.2.2 j hjz; rwa [lzj] at this
        have hw : (2 ^ q : Nat) = n := hn
        obtain ⟨za, hza⟩ : ∃ a, (Z.getD j []).getD r 0 = a := ⟨_, rfl⟩
        obtain ⟨zb, hzb⟩ : ∃ a, (Z.getD j []).getD ((r + 1) % n) 0 = a := ⟨_, rfl⟩
        obtain ⟨zc, hzc⟩ : ∃ a, (Z.getD j []).getD ((r + (n - 4)) % n) 0 = a := ⟨_, rfl⟩
        have ez : (zcT q Z r).take j ++ [(za, zb, zc)] = (zcT q Z r).take (j + 1) := by
          rw [List.take_add_one]
          congr 1
          unfold zcT
          rw [List.getElem?_map, List.getElem?_eq_getElem hjz, ← hza, ← hzb, ← hzc, hw]
          simp [List.getD_eq_getElem?_getD, List.getElem?_eq_getElem hjz]
        have hch : LC cC ((zcT q Z r).take j) ++ [u64 (L0 za), u64 (L1 za), u64 (L2 za), u64 (L3 za), u64 (L0 zb), u64 (L1 zb), u64 (L2 zb), u64 (L3 zb), u64 (L0 zc), u64 (L1 zc), u64 (L2 zc), u64 (L3 zc)] = LC cC ((zcT q Z r).take (j + 1)) := by
          rw [← ez, ← LC_app, LC_one]; rfl
        repeat (first | refine DrawVC.intro (by kernel_rfl) ?_ | refine And.intro (by omega) ?_ | exact trivial | simp only [↓PX, SX, SYX, EY, simprocAttr, TYX, UX, guard_un, IOX, mv_fa, plain_s, plain_r, plain_p, b2, hzy, w3, w4, w5, wr1, wr2])
        refine RawVC.idx rz hrn rfl rfl (by rfl) ?_
        simp only [↓PX, SX, SYX, EY, simprocAttr, TYX, UX, guard_un, IOX, mv_fa, plain_s, plain_r, plain_p]
        refine RawVC.ldE (ents_of 0 rfl (fun h => by cases h) fZ) lzj hrn rfl (by rfl) (by rfl) ?_
        repeat (first | refine DrawVC.intro (by kernel_rfl) ?_ | refine And.intro (by omega) ?_ | exact trivial | simp only [↓PX, SX, SYX, EY, simprocAttr, TYX, UX, guard_un, IOX, mv_fa, plain_s, plain_r, plain_p, hzy, w3, w4, w5, wr1, wr2, wn])
        refine RawVC.idx rz m1 rfl rfl (by rfl) ?_
        simp only [↓PX, SX, SYX, EY, simprocAttr, TYX, UX, guard_un, IOX, mv_fa, plain_s, plain_r, plain_p]
        refine RawVC.ldE (ents_of 0 rfl (fun h => by cases h) fZ) lzj m1 rfl (by rfl) (by rfl) ?_
        repeat (first | refine DrawVC.intro (by kernel_rfl) ?_ | refine And.intro (by omega) ?_ | exact trivial | simp only [↓PX, SX, SYX, EY, simprocAttr, TYX, UX, guard_un, IOX, mv_fa, plain_s, plain_r, plain_p, hzy, w3, w4, w5, wr1, wr2, wn])
        refine RawVC.idx rz m2 rfl rfl (by rfl) ?_
        simp only [↓PX, SX, SYX, EY, simprocAttr, TYX, UX, guard_un, IOX, mv_fa, plain_s, plain_r, plain_p]
        refine RawVC.ldE (ents_of 0 rfl (fun h => by cases h) fZ) lzj m2 rfl (by rfl) (by rfl) ?_
        rw [hza, hzb, hzc]
        repeat (first | refine DrawVC.intro (by kernel_rfl) ?_ | refine And.intro (by omega) ?_ | exact trivial | simp only [↓PX, SX, SYX, EY, simprocAttr, TYX, UX, guard_un, IOX, mv_fa, plain_s, plain_r, plain_p, hch, w2])
        exact ⟨j + 1, by omega, by omega, (St.le_at [(191, 25)] (by simp [-List.getD_eq_getElem?_getD, SYX, iv, Tle, AVle, A0le, Mem.get, ren, idAt, idO, idA, List.map, ]) (by simp [-List.getD_eq_getElem?_getD, SYX, Mle, Ele, Hle, Tle, AVle, A0le, Mem.get, ren, idAt, idO, idA, List.map, ]) (by simp [SYX, ren, idAt, idO, idA, List.map, ]) (by simp [SYX]))⟩
      · have b2 : decide ((j : Int) < (Z.length : Int)) = false := decide_eq_false (by omega)
        have hj : j = Z.length := by omega
        subst hj
        have tkZ : (zcT q Z r).take Z.length = zcT q Z r := by rw [← zcT_len (q := q) (Z := Z) (r := r), List.take_length]
        have cl := u_Checks s (pt s q r) (if r = 0 then 1 else 0) (if r = n - 4 then 1 else 0) (if r < n - 4 then 1 else 0) (rwT C r) (rwT S r) (zcT q Z r) β γ (pw_w (by decide) _) (by split <;> decide) (by split <;> decide) (by split <;> decide) (rwT_w hC r) (rwT_w hS r) (zcT_w hZ r) hβ hγ (by rw [rwT_len]; omega) (by rw [rwT_len]; omega) (by rw [zcT_len]; omega)
        rw [← hck r, rwT_len, rwT_len, zcT_len, ← hCS] at cl
        have hRw : ∀ x ∈ ckT s q β γ C S Z r, x < W256 := by rw [hck r]; exact ckL_w
        have hRl : (ckT s q β γ C S Z r).length ≤ 100 := by rw [hck r]; exact ckL_len (by rw [zcT_len]; omega)
        have hR0 := hne r hrn
        have hbR := fun i hi h => hbN r i hrn hi h
        obtain ⟨R, hR⟩ : ∃ R, ckT s q β γ C S Z r = R := ⟨_, rfl⟩
        rw [hR] at cl hRw hRl hR0 hbR
        unfold SN at cl
        have b3 : ((R.length : Int) == 0) = false := by rw [beq_eq_false_iff_ne]; omega
        repeat (first | refine DrawVC.intro (by kernel_rfl) ?_ | refine And.intro (by omega) ?_ | exact trivial | simp only [↓PX, SX, SYX, EY, simprocAttr, TYX, UX, guard_un, IOX, mv_fa, plain_s, plain_r, plain_p, b2, tkZ])
        have hlC : (rwT C r).length = C.length := rwT_len
        have hlS : (rwT S r).length = C.length := by rw [rwT_len, hCS]
        have hlZ : (LC cC (zcT q Z r)).length = Z.length * 12 := by rw [LC_len cC_len, zcT_len]
        refine CallVC.intro (cl) ⟨rfl, rfl, (by simp only [argMatch, SX, SYX, EY, simprocAttr, and_self, List.length_append, List.length_map, List.length_set, TYX, UX, guard_un, IOX, mv_fa, plain_s, plain_r, plain_p, b3, hlC, hlS, hlZ]), (by simp only [argMatch, SX, SYX, EY, simprocAttr, and_self, List.length_append, List.length_map, List.length_set, TYX, UX, guard_un, IOX, mv_fa, plain_s, plain_r, plain_p, b3, hlC, hlS, hlZ]), (by simp only [argMatch, SX, SYX, EY, simprocAttr, and_self, List.length_append, List.length_map, List.length_set, TYX, UX, guard_un, IOX, mv_fa, plain_s, plain_r, plain_p, b3, hlC, hlS, hlZ]), rfl, rfl, trivial⟩ rfl rfl ?_
        simp only [↓PX, SX, SYX, EY, simprocAttr, TYX, UX, guard_un, IOX, mv_fa, plain_s, plain_r, plain_p, b3, hlC, hlS, hlZ]
        repeat (first | refine DrawVC.intro (by kernel_rfl) ?_ | refine And.intro (by omega) ?_ | exact trivial | simp only [↓PX, SX, SYX, EY, simprocAttr, TYX, UX, guard_un, IOX, mv_fa, plain_s, plain_r, plain_p, b3])
        refine loop_hav ?_
        simp only [↓PX, SX, SYX, EY, simprocAttr, TYX, UX, guard_un, IOX, mv_fa, plain_s, plain_r, plain_p]
        refine loop_go mixed (by trivial) (γ := Nat) (fun t => t ≤ R.length ∧ ∀ t', t' < t → R.getD t' 0 = 0) (fun t => R.length - t) (fun t => [(28, iv t)]) (fun t => []) 0 ⟨Nat.zero_le _, fun _ h => by omega⟩ (St.le_of id (by simp [-List.getD_eq_getElem?_getD, SYX, iv, Tle, AVle, A0le, Mem.get]) (by simp [-List.getD_eq_getElem?_getD, SYX, Mle, Ele, Hle, Tle, AVle, A0le, Mem.get]) (by simp [SYX]) (by simp [SYX])) ?_
        rintro t ⟨ht, hz1⟩
        by_cases htl : t < R.length
        · have b4 : decide ((t : Int) < (R.length : Int)) = true := decide_eq_true (by omega)
          have ldR := eL_ld (l := R) (j := t) htl
          have w6 := wS (j := t) (by omega)
          have htx : t * 4 + 4 ≤ R.length * 4 := by omega
          have hty : (t : Int) < (R.length : Int) := by omega
          have htz : (0 : Int) ≤ (t : Int) := by omega
          by_cases hv : R.getD t 0 = 0
          · rw [hv] at ldR
            have e5 := eqN_self (a := 0)
            repeat (first | refine DrawVC.intro (by kernel_rfl) ?_ | refine And.intro (by omega) ?_ | exact trivial | simp only [↓PX, SX, SYX, EY, simprocAttr, TYX, UX, guard_un, IOX, mv_fa, plain_s, plain_r, plain_p, b4, ldR, e5, w6, htx, hty])
            exact ⟨t + 1, ⟨by omega, fun t' h' => by
              rcases Nat.lt_or_ge t' t with h | h
              · exact hz1 t' h
              · have : t' = t := by omega
                rw [this]; exact hv⟩, by omega, (St.le_of id (by simp [-List.getD_eq_getElem?_getD, SYX, iv, Tle, AVle, A0le, Mem.get]) (by simp [-List.getD_eq_getElem?_getD, SYX, Mle, Ele, Hle, Tle, AVle, A0le, Mem.get]) (by simp [SYX]) (by simp [SYX]))⟩
          · have e5 : eqN (R.getD t 0) 0 = false := by
              rw [eqN_eq (getD_lt hRw htl) (by decide), beq_eq_false_iff_ne]; exact hv
            have hBf := hbR t htl hv
            repeat (first | refine DrawVC.intro (by kernel_rfl) ?_ | refine And.intro (by omega) ?_ | exact trivial | simp only [↓PX, SX, SYX, EY, simprocAttr, TYX, UX, guard_un, IOX, mv_fa, plain_s, plain_r, plain_p, b4, ldR, e5, htx, hty, htz, hBf])
        · have b4 : decide ((t : Int) < (R.length : Int)) = false := decide_eq_false (by omega)
          have ht : t = R.length := by omega
          repeat (first | refine DrawVC.intro (by kernel_rfl) ?_ | refine And.intro (by omega) ?_ | exact trivial | simp only [↓PX, SX, SYX, EY, simprocAttr, TYX, UX, guard_un, IOX, mv_fa, plain_s, plain_r, plain_p, b4, wS (j := r) (by omega)])
          exact ⟨r + 1, ⟨by omega, fun r' h' => by
            rcases Nat.lt_or_ge r' r with h | h
            · exact hz0 r' h
            · have : r' = r := by omega
              rw [this, hR]
              intro i hi
              exact hz1 i (by omega)⟩, by omega, (St.le_of id (by simp [-List.getD_eq_getElem?_getD, SYX, iv, Tle, AVle, A0le, Mem.get]) (by simp [-List.getD_eq_getElem?_getD, SYX, Mle, Ele, Hle, Tle, AVle, A0le, Mem.get]) (by simp [SYX]) (by simp [SYX]))⟩
  · have b0 : decide ((r : Int) < (n : Int)) = false := decide_eq_false (by omega)
    have hBt : B = true := hbY fun r' hr' => hz0 r' (by omega)
    repeat (first | refine DrawVC.intro (by kernel_rfl) ?_ | refine And.intro (by omega) ?_ | exact trivial | simp only [↓PX, SX, SYX, EY, simprocAttr, TYX, UX, guard_un, IOX, mv_fa, plain_s, plain_r, plain_p, b0, hBt])
end Go.Sx
