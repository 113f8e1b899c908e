/-
  lookup.Permute: the matching. No conditions.
-/
import Derived.Test.YtmjhaopkhceegaaZLkS
namespace Go.Sx
open Go.Proofs Go.Num
-- SY
-- TY: TYX, UX, guard_un, IOX
set_option maxRecDepth 100000
set_option linter.unusedSimpArgs false
set_option pp.deepTerms true
set_option pp.maxSteps 100000
/-- Places as a row of ints. -/
def iP (l : List Nat) : List Value := LC iC (l.map fun k : Nat => (k : Int))
theorem asc_w {l : List Nat} (h : ∀ z ∈ l, z < W256) : ∀ z ∈ asc l, z < W256 := fun z hz => h z (asc_mem.1 hz)
/-- What the matching's first loop keeps. -/
structure PmI (n : Nat) (a b : List Nat) (p : Nat × List Nat × List Nat) : Prop where
  i : p.1 ≤ n
  l : lft (ahd a p.1) (a.drop p.1) p.2.1 = lft none a b
  r : p.2.2 ++ rps (ahd a p.1) (a.drop p.1) p.1 = rps none a 0
  s : p.2.1.Pairwise (· ≤ ·)
  w : ∀ z ∈ p.2.1, z < W256
  n : p.2.1.length ≤ b.length
theorem u_Del1 {L : List Nat} {v : Nat} (hs : L.Pairwise (· ≤ ·)) (hm : v ∈ L) (hn : L.length < 4611686018427387904) :
    Contract Try.prog 35 [.mv 24 4 L.length (LC eC L), .val (.int .i64 (lbd v L : Nat)), .val (.int .i64 ((lbd v L + 1 : Nat) : Int))] [.row 24 4 (L.erase v).length (LC eC (L.erase v))] := by
  have hk : lbd v L < L.length := ((lbd_ok hs).2 hm).1
  have h := u_Delete (l := L) (i := lbd v L) (j := lbd v L + 1) (Nat.lt_succ_self _) hk hn
  have e : L.take (lbd v L) ++ L.drop (lbd v L + 1) = L.erase v := by rw [← List.eraseIdx_eq_take_drop_succ, lbd_plc hs hm, plc_erase]
  have e2 : L.length - (lbd v L + 1 - lbd v L) = (L.erase v).length := by rw [List.length_erase_of_mem hm]; omega
  rw [e, e2] at h
  exact h
theorem rps_cons {p : Option Nat} {v k : Nat} {a : List Nat} : rps p (v :: a) k = if p = some v then k :: rps (some v) a (k + 1) else rps (some v) a (k + 1) := rfl
theorem iP_snoc {l : List Nat} {k i : Nat} : iP (k :: l) ++ [Value.int .i64 (i : Int)] = iP (k :: (l ++ [i])) := by
  simp [iP, LC, iC]
theorem PmI.agl {n : Nat} {a b : List Nat} {p : Nat × List Nat × List Nat} (h : PmI n a b p) : p.2.2.length ≤ a.length := by
  have h1 := congrArg List.length h.r
  have h2 := rps_len a none 0
  rw [List.length_append] at h1
  omega
theorem PmI.rep {n i : Nat} {a b L ag : List Nat} (h : PmI n a b (i, L, ag)) (hi : i < n) (hn : a.length = n) (hrep : ahd a i = some (a.getD i 0)) : PmI n a b (i + 1, L, ag ++ [i]) := by
  have hl := h.l
  have hr := h.r
  simp only at hl hr
  rw [drop_at (by omega)] at hl hr
  rw [lft_cons] at hl
  rw [rps_cons] at hr
  rw [if_pos hrep] at hl hr
  refine ⟨hi, ?_, ?_, h.s, h.w, h.n⟩
  · show lft (ahd a (i + 1)) _ L = _
    rw [ahd_succ]; exact hl
  · show (ag ++ [i]) ++ rps (ahd a (i + 1)) _ (i + 1) = _
    rw [ahd_succ, List.append_assoc]; exact hr
theorem PmI.new {n i : Nat} {a b L ag : List Nat} (h : PmI n a b (i, L, ag)) (hi : i < n) (hn : a.length = n) (hrep : ¬ ahd a i = some (a.getD i 0)) (hm : a.getD i 0 ∈ L) : PmI n a b (i + 1, L.erase (a.getD i 0), ag) := by
  have hl := h.l
  have hr := h.r
  simp only at hl hr
  rw [drop_at (by omega)] at hl hr
  rw [lft_cons] at hl
  rw [rps_cons] at hr
  rw [if_neg hrep] at hl hr
  rw [if_pos hm] at hl
  refine ⟨hi, ?_, ?_, erase_pw h.s, fun z hz => h.w z (List.mem_of_mem_erase hz), Nat.le_trans (List.length_erase_le ..) h.n⟩
  · show lft (ahd a (i + 1)) _ (L.erase _) = _
    rw [ahd_succ]; exact hl
  · show ag ++ rps (ahd a (i + 1)) _ (i + 1) = _
    rw [ahd_succ]; exact hr
theorem PmI.bad {n i : Nat} {a b L ag : List Nat} (h : PmI n a b (i, L, ag)) (hi : i < n) (hn : a.length = n) (hrep : ¬ ahd a i = some (a.getD i 0)) (hm : ¬ a.getD i 0 ∈ L) : lft none a b = none := by
  have hl := h.l
  simp only at hl
  rw [drop_at (by omega)] at hl
  rw [lft_cons, if_neg hrep, if_neg hm] at hl
  exact hl.symm
theorem u_Permute (s : Int) (x y : List Nat) (hx : ∀ z ∈ x, z < W256) (hy : ∀ z ∈ y, z < W256) (hbx : x.length * 32 ≤ 140737488351232) (hby : y.length * 32 ≤ 140737488351232) :
    Contract Try.prog 12 [.val (.int .i64 s), .sl x.length 4 (LC eC x), .sl y.length 4 (LC eC y)] [.row 24 4 (pm s x y).1.length (LC eC (pm s x y).1), .row 24 4 (pm s x y).2.1.length (LC eC (pm s x y).2.1), .val (.int .i64 (pm s x y).2.2)] := by
  cases srt s with
  | no hk he hm F =>
    have e : pm s x y = ([], [], 20) := by unfold pm; rw [if_neg (by rw [hk]; decide)]
    rw [e]
    refine contract_of (N := _) (vars := _) (c := bodyOf Try.f12) Try.func12 (body_eq rfl) rfl rfl (by rfl) mixed _ _ trivial 1000 ?_
    simp only [bodyOf, Try.f12, Option.getD_some, argA, argE, List.length_cons, List.length_nil, Nat.reduceAdd, Nat.reduceSub, List.replicate, List.cons_append, List.nil_append]
    simp only [↓PX, SX, SYX, EY, simprocAttr, TYX, UX, guard_un, IOX]
    refine CallVC.intro (u_Modulus s) ⟨rfl, trivial⟩ rfl rfl ?_
    simp only [↓PX, SX, SYX, EY, simprocAttr, TYX, UX, guard_un, IOX, he]
  | yes hk he sm ng sq F R P h2 =>
    by_cases h1 : x.length = y.length
    · have b1 : ((x.length : Int) != (y.length : Int)) = false := by simp [h1]
      by_cases h64 : x.length ≤ 64
      · have b2 : decide ((64 : Int) < (x.length : Int)) = false := decide_eq_false (by omega)
        have ax := u_rising s x hx hbx
        have ay := u_rising s y hy hby
        have hla : (asc (rsd s x)).length = x.length := (asc_len _).trans (List.length_map _)
        have hlb : (asc (rsd s y)).length = y.length := (asc_len _).trans (List.length_map _)
        have cc := u_Clone (asc (rsd s x)) (by omega)
        rw [hla] at cc
        refine contract_of (N := _) (vars := _) (c := bodyOf Try.f12) Try.func12 (body_eq rfl) rfl rfl (by rfl) mixed _ _ trivial 1000 ?_
        simp only [bodyOf, Try.f12, Option.getD_some, argA, argE, List.length_cons, List.length_nil, Nat.reduceAdd, Nat.reduceSub, List.replicate, List.cons_append, List.nil_append]
        simp only [↓PX, SX, SYX, EY, simprocAttr, TYX, UX, guard_un, IOX]
        refine CallVC.intro (u_Modulus s) ⟨rfl, trivial⟩ rfl rfl ?_
        simp only [↓PX, SX, SYX, EY, simprocAttr, TYX, UX, guard_un, IOX, he, b1, b2]
        refine CallVC.intro (ax) ⟨rfl, (by simp only [argMatch, SX, SYX, EY, simprocAttr, and_self, List.length_append, List.length_map, List.length_set, TYX, UX, guard_un, IOX]), trivial⟩ rfl rfl ?_
        simp only [↓PX, SX, SYX, EY, simprocAttr, TYX, UX, guard_un, IOX]
        refine CallVC.intro (ay) ⟨rfl, (by simp only [argMatch, SX, SYX, EY, simprocAttr, and_self, List.length_append, List.length_map, List.length_set, TYX, UX, guard_un, IOX]), trivial⟩ rfl rfl ?_
        simp only [↓PX, SX, SYX, EY, simprocAttr, TYX, UX, guard_un, IOX]
        refine CallVC.intro (cc) ⟨(by simp only [argMatch, SX, SYX, EY, simprocAttr, and_self, List.length_append, List.length_map, List.length_set, TYX, UX, guard_un, IOX, hla]), trivial⟩ rfl rfl ?_
        simp only [↓PX, SX, SYX, EY, simprocAttr, TYX, UX, guard_un, IOX, hla]
        refine loop_hav ?_
        simp only [↓PX, SX, SYX, EY, simprocAttr, TYX, UX, guard_un, IOX]
        have haw := asc_w (rsd_w (s := s) (l := x))
        have hbw := asc_w (rsd_w (s := s) (l := y))
        have hbs := asc_pw (rsd s y)
        refine loop_go2 mixed (by trivial) (γ := Nat × List Nat × List Nat) (PmI x.length (asc (rsd s x)) (asc (rsd s y))) (fun p => x.length - p.1) (fun p => [(49, iv p.1), (12, .o (.r 115 p.2.1.length)), (14, match p.2.2 with | [] => .o (.v (.slice none 0 0)) | _ :: _ => .o (.r 155 p.2.2.length)), (15, .o .any), (16, .o .any), (17, .o .any), (18, .o .any), (44, .o .any)]) (fun p => [(115, .row 24 4 p.2.1.length (LC eC p.2.1))]) (fun p => match p.2.2 with | [] => [] | _ :: _ => [(155, .row 3 1 p.2.2.length (iP p.2.2))]) (fun p => match p.2.2 with | [] => 155 | _ :: _ => 159) (0, asc (rsd s y), []) ⟨Nat.zero_le _, rfl, rfl, hbs, hbw, Nat.le_refl _⟩ (St.le_of id (by simp [-List.getD_eq_getElem?_getD, SYX, iv, Tle, AVle, A0le, Mem.get, hlb]) (by simp [-List.getD_eq_getElem?_getD, SYX, Mle, Ele, Hle, Tle, AVle, A0le, Mem.get, hlb]) (by simp [SYX]) (by simp [SYX])) ?_
        intro p hp
        obtain ⟨i, L, ag⟩ := p
        have hi : i ≤ x.length := hp.i
        have hs : L.Pairwise (· ≤ ·) := hp.s
        have hw : ∀ z ∈ L, z < W256 := hp.w
        by_cases h0 : i < x.length
        · have b0 : decide ((i : Int) < (x.length : Int)) = true := decide_eq_true (by omega)
          have ld := eL_ld (l := asc (rsd s x)) (j := i) (by omega)
          have w5 : IntKind.i64.wrap ((i : Int) + 1) = ((i + 1 : Nat) : Int) := wS (by omega)
          by_cases hrep : ahd (asc (rsd s x)) i = some ((asc (rsd s x)).getD i 0)
          · have hi0 : 0 < i := by
              rcases Nat.eq_zero_or_pos i with h | h
              · subst h; cases hrep
              · exact h
            have g0 : decide ((0 : Int) < (i : Int)) = true := decide_eq_true (by omega)
            have w6 : IntKind.i64.wrap ((i : Int) - 1) = ((i - 1 : Nat) : Int) := wP hi0 (by omega)
            have ld2 := eL_ld (l := asc (rsd s x)) (j := i - 1) (by omega)
            have heq : (asc (rsd s x)).getD (i - 1) 0 = (asc (rsd s x)).getD i 0 := by
              unfold ahd at hrep
              rw [if_neg (by omega)] at hrep
              exact Option.some.inj hrep
            rw [heq] at ld2
            cases ag with
            | nil =>
              simp only [↓PX, SX, SYX, EY, simprocAttr, TYX, UX, guard_un, IOX, b0, ld, hla, g0]
              repeat (first | refine DrawVC.intro (by kernel_rfl) ?_ | refine And.intro (by omega) ?_ | exact trivial)
              simp only [↓PX, SX, SYX, EY, simprocAttr, TYX, UX, guard_un, IOX, w6, ld2, w5]
              exact ⟨(i + 1, L, [i]), hp.rep h0 hla hrep, by show x.length - (i + 1) < x.length - i; omega, (St.le_of (ren [(155, 239)]) (by simp [-List.getD_eq_getElem?_getD, SYX, iv, ren, Tle, AVle, A0le, Mem.get, iP, LC, iC]) (by simp [-List.getD_eq_getElem?_getD, SYX, ren, Mle, Ele, Mem.get, iP, LC, iC]) (by simp [SYX, ren]) (by simp [SYX]))⟩
            | cons k ag =>
              have hagl : ag.length + 1 ≤ (asc (rsd s x)).length := hp.agl
              simp only [↓PX, SX, SYX, EY, simprocAttr, TYX, UX, guard_un, IOX, b0, ld, hla, g0]
              repeat (first | refine DrawVC.intro (by kernel_rfl) ?_ | refine And.intro (by omega) ?_ | exact trivial)
              simp only [↓PX, SX, SYX, EY, simprocAttr, TYX, UX, guard_un, IOX, w6, ld2, w5, iP_snoc]
              exact ⟨⟨by omega, by omega⟩, (i + 1, L, k :: (ag ++ [i])), hp.rep h0 hla hrep, by show x.length - (i + 1) < x.length - i; omega, (St.le_of (ren [(155, 243)]) (by simp [-List.getD_eq_getElem?_getD, SYX, iv, ren, Tle, AVle, A0le, Mem.get, iP, LC, iC]) (by simp [-List.getD_eq_getElem?_getD, SYX, ren, Mle, Ele, Mem.get, iP, LC, iC]) (by simp [SYX, ren]) (by simp [SYX]))⟩
          · have hv : (asc (rsd s x)).getD i 0 < W256 := by
              rw [List.getD_eq_getElem?_getD, List.getElem?_eq_getElem (show i < (asc (rsd s x)).length by omega)]
              exact haw _ (List.getElem_mem _)
            have hL62 : L.length < 4611686018427387904 := by have h7 : L.length ≤ (asc (rsd s y)).length := hp.n; omega
            have cs := u_Search _ L hv hw hs hL62
            rcases Nat.eq_zero_or_pos i with hi0 | hi0
            · have g0 : decide ((0 : Int) < (i : Int)) = false := decide_eq_false (by omega)
              cases ag with
              | nil =>
                simp only [↓PX, SX, SYX, EY, simprocAttr, TYX, UX, guard_un, IOX, b0, ld, hla, g0]
                repeat (first | refine DrawVC.intro (by kernel_rfl) ?_ | refine And.intro (by omega) ?_ | exact trivial)
                refine CallVC.intro (cs) ⟨(by simp only [argMatch, SX, SYX, EY, simprocAttr, and_self, List.length_append, List.length_map, List.length_set, TYX, UX, guard_un, IOX]), rfl, rfl, trivial⟩ rfl rfl ?_
                simp only [↓PX, SX, SYX, EY, simprocAttr, TYX, UX, guard_un, IOX]
                by_cases hm : (asc (rsd s x)).getD i 0 ∈ L
                · have d1 : decide ((asc (rsd s x)).getD i 0 ∈ L) = true := decide_eq_true hm
                  have hk1 : lbd ((asc (rsd s x)).getD i 0) L < L.length := ((lbd_ok hs).2 hm).1
                  have w7 : IntKind.i64.wrap ((lbd ((asc (rsd s x)).getD i 0) L : Nat) + 1 : Int) = ((lbd ((asc (rsd s x)).getD i 0) L + 1 : Nat) : Int) := wS (by omega)
                  simp only [↓PX, SX, SYX, EY, simprocAttr, TYX, UX, guard_un, IOX, d1, w7]
                  refine CallVC.give (u_Del1 hs hm hL62) ⟨rfl, rfl, rfl, trivial⟩ rfl (by simp [refs]) ?_
                  simp only [↓PX, SX, SYX, EY, simprocAttr, TYX, UX, guard_un, IOX, w5]
                  exact ⟨(i + 1, L.erase ((asc (rsd s x)).getD i 0), []), hp.new h0 hla hrep hm, by show x.length - (i + 1) < x.length - i; omega, (St.le_of (ren [(115, 283)]) (by simp [-List.getD_eq_getElem?_getD, SYX, iv, ren, Tle, AVle, A0le, Mem.get, iP]) (by simp [-List.getD_eq_getElem?_getD, SYX, ren, Mle, Ele, Mem.get, iP]) (by simp [SYX, ren]) (by simp [SYX]))⟩
                · have d1 : decide ((asc (rsd s x)).getD i 0 ∈ L) = false := decide_eq_false hm
                  have e : pm s x y = ([], [], 200) := by
                    unfold pm
                    rw [if_pos hk, if_pos ⟨h1, h64⟩, hp.bad h0 hla hrep hm]
                  rw [e]
                  simp only [↓PX, SX, SYX, EY, simprocAttr, TYX, UX, guard_un, IOX, d1]
              | cons k ag =>
                have h9 := congrArg List.length hp.r
                simp only [hi0, ahd, if_true, List.drop_zero, List.length_append, List.length_cons] at h9
                omega
            · have g0 : decide ((0 : Int) < (i : Int)) = true := decide_eq_true (by omega)
              have w6 : IntKind.i64.wrap ((i : Int) - 1) = ((i - 1 : Nat) : Int) := wP hi0 (by omega)
              have ld2 := eL_ld (l := asc (rsd s x)) (j := i - 1) (by omega)
              have hne : ¬ (asc (rsd s x)).getD i 0 = (asc (rsd s x)).getD (i - 1) 0 := by
                intro e; apply hrep; unfold ahd; rw [if_neg (by omega), e]
              have hv2 : (asc (rsd s x)).getD (i - 1) 0 < W256 := by
                rw [List.getD_eq_getElem?_getD, List.getElem?_eq_getElem (show i - 1 < (asc (rsd s x)).length by omega)]
                exact haw _ (List.getElem_mem _)
              have e6 : eqN ((asc (rsd s x)).getD i 0) ((asc (rsd s x)).getD (i - 1) 0) = false := by
                rw [eqN_eq hv hv2]; exact beq_eq_false_iff_ne.2 hne
              cases ag with
              | nil =>
                simp only [↓PX, SX, SYX, EY, simprocAttr, TYX, UX, guard_un, IOX, b0, ld, hla, g0]
                repeat (first | refine DrawVC.intro (by kernel_rfl) ?_ | refine And.intro (by omega) ?_ | exact trivial)
                simp only [↓PX, SX, SYX, EY, simprocAttr, TYX, UX, guard_un, IOX, w6, ld2, e6]
                refine CallVC.intro (cs) ⟨(by simp only [argMatch, SX, SYX, EY, simprocAttr, and_self, List.length_append, List.length_map, List.length_set, TYX, UX, guard_un, IOX]), rfl, rfl, trivial⟩ rfl rfl ?_
                simp only [↓PX, SX, SYX, EY, simprocAttr, TYX, UX, guard_un, IOX]
                by_cases hm : (asc (rsd s x)).getD i 0 ∈ L
                · have d1 : decide ((asc (rsd s x)).getD i 0 ∈ L) = true := decide_eq_true hm
                  have hk1 : lbd ((asc (rsd s x)).getD i 0) L < L.length := ((lbd_ok hs).2 hm).1
                  have w7 : IntKind.i64.wrap ((lbd ((asc (rsd s x)).getD i 0) L : Nat) + 1 : Int) = ((lbd ((asc (rsd s x)).getD i 0) L + 1 : Nat) : Int) := wS (by omega)
                  simp only [↓PX, SX, SYX, EY, simprocAttr, TYX, UX, guard_un, IOX, d1, w7]
                  refine CallVC.give (u_Del1 hs hm hL62) ⟨rfl, rfl, rfl, trivial⟩ rfl (by simp [refs]) ?_
                  simp only [↓PX, SX, SYX, EY, simprocAttr, TYX, UX, guard_un, IOX, w5]
                  exact ⟨(i + 1, L.erase ((asc (rsd s x)).getD i 0), []), hp.new h0 hla hrep hm, by show x.length - (i + 1) < x.length - i; omega, (St.le_of (ren [(115, 283)]) (by simp [-List.getD_eq_getElem?_getD, SYX, iv, ren, Tle, AVle, A0le, Mem.get, iP, LC, iC]) (by simp [-List.getD_eq_getElem?_getD, SYX, ren, Mle, Ele, Mem.get, iP, LC, iC]) (by simp [SYX, ren]) (by simp [SYX]))⟩
                · have d1 : decide ((asc (rsd s x)).getD i 0 ∈ L) = false := decide_eq_false hm
                  have e : pm s x y = ([], [], 200) := by
                    unfold pm
                    rw [if_pos hk, if_pos ⟨h1, h64⟩, hp.bad h0 hla hrep hm]
                  rw [e]
                  simp only [↓PX, SX, SYX, EY, simprocAttr, TYX, UX, guard_un, IOX, d1]
              | cons k ag =>
                simp only [↓PX, SX, SYX, EY, simprocAttr, TYX, UX, guard_un, IOX, b0, ld, hla, g0]
                repeat (first | refine DrawVC.intro (by kernel_rfl) ?_ | refine And.intro (by omega) ?_ | exact trivial)
                simp only [↓PX, SX, SYX, EY, simprocAttr, TYX, UX, guard_un, IOX, w6, ld2, e6]
                refine CallVC.intro (cs) ⟨(by simp only [argMatch, SX, SYX, EY, simprocAttr, and_self, List.length_append, List.length_map, List.length_set, TYX, UX, guard_un, IOX]), rfl, rfl, trivial⟩ rfl rfl ?_
                simp only [↓PX, SX, SYX, EY, simprocAttr, TYX, UX, guard_un, IOX]
                by_cases hm : (asc (rsd s x)).getD i 0 ∈ L
                · have d1 : decide ((asc (rsd s x)).getD i 0 ∈ L) = true := decide_eq_true hm
                  have hk1 : lbd ((asc (rsd s x)).getD i 0) L < L.length := ((lbd_ok hs).2 hm).1
                  have w7 : IntKind.i64.wrap ((lbd ((asc (rsd s x)).getD i 0) L : Nat) + 1 : Int) = ((lbd ((asc (rsd s x)).getD i 0) L + 1 : Nat) : Int) := wS (by omega)
                  simp only [↓PX, SX, SYX, EY, simprocAttr, TYX, UX, guard_un, IOX, d1, w7]
                  refine CallVC.give (u_Del1 hs hm hL62) ⟨rfl, rfl, rfl, trivial⟩ rfl (by simp [refs]) ?_
                  simp only [↓PX, SX, SYX, EY, simprocAttr, TYX, UX, guard_un, IOX, w5]
                  exact ⟨(i + 1, L.erase ((asc (rsd s x)).getD i 0), k :: ag), hp.new h0 hla hrep hm, by show x.length - (i + 1) < x.length - i; omega, (St.le_of (ren [(115, 287)]) (by simp [-List.getD_eq_getElem?_getD, SYX, iv, ren, Tle, AVle, A0le, Mem.get, iP, LC, iC]) (by simp [-List.getD_eq_getElem?_getD, SYX, ren, Mle, Ele, Mem.get, iP, LC, iC]) (by simp [SYX, ren]) (by simp [SYX]))⟩
                · have d1 : decide ((asc (rsd s x)).getD i 0 ∈ L) = false := decide_eq_false hm
                  have e : pm s x y = ([], [], 200) := by
                    unfold pm
                    rw [if_pos hk, if_pos ⟨h1, h64⟩, hp.bad h0 hla hrep hm]
                  rw [e]
                  simp only [↓PX, SX, SYX, EY, simprocAttr, TYX, UX, guard_un, IOX, d1]
        · have b0 : decide ((i : Int) < (x.length : Int)) = false := decide_eq_false (by omega)
          have hin : i = x.length := by omega
          have hf : lft none (asc (rsd s x)) (asc (rsd s y)) = some L := by
            have := hp.l
            simp only [hin] at this
            rw [← hla, List.drop_length] at this
            exact this.symm
          have hr : rps none (asc (rsd s x)) 0 = ag := by
            have := hp.r
            simp only [hin] at this
            rw [← hla, List.drop_length] at this
            simpa [rps] using this.symm
          have e : pm s x y = (asc (rsd s x), mtc none (asc (rsd s x)) L, 0) := by
            unfold pm
            rw [if_pos hk, if_pos ⟨h1, h64⟩, hf]
          have hml : (mtc none (asc (rsd s x)) L).length = x.length := by rw [mtc_len, hla]
          have hput := putA_mtc (asc (rsd s x)) [] none L
          simp only [List.nil_append, List.length_nil, hr] at hput
          rw [e]
          cases ag with
          | nil =>
            have hput : asc (rsd s x) = mtc none (asc (rsd s x)) L := hput
            simp only [↓PX, SX, SYX, EY, simprocAttr, TYX, UX, guard_un, IOX, b0, hla]
            refine ExVC.intro _ (X_len0 rfl ⟨_, Try.underlying67⟩ rfl) ?_
            simp only [↓PX, SX, SYX, EY, simprocAttr, TYX, UX, guard_un, IOX]
            refine loop_rounds 1 ?_
            refine RoundsVC.step mixed trivial 1000 ?_
            simp only [↓PX, SX, SYX, EY, simprocAttr, TYX, UX, guard_un, IOX]
            rw [← hput, hla]
          | cons k ag =>
            have hpm := lft_perm hf
            have hpl := hpm.length_eq
            have hrl := rps_len (asc (rsd s x)) none 0
            have hlt := rps_lt (asc (rsd s x)) none 0
            rw [List.length_append] at hpl
            rw [hr] at hrl hlt
            simp only [Nat.zero_add, Nat.zero_le, true_and] at hlt
            have hLl : L.length = (k :: ag).length := by omega
            rw [hla] at hlt
            simp only [↓PX, SX, SYX, EY, simprocAttr, TYX, UX, guard_un, IOX, b0, hla]
            have hAl : ag.length + 1 = (k :: ag).length := rfl
            rw [hAl]
            generalize k :: ag = A at *
            refine loop_hav ?_
            simp only [↓PX, SX, SYX, EY, simprocAttr, TYX, UX, guard_un, IOX]
            refine loop_go mixed (by trivial) (γ := Nat) (fun t => t ≤ A.length) (fun t => A.length - t) (fun t => [(85, iv t)]) (fun t => [(131, .row 24 4 x.length (LC eC (putA (asc (rsd s x)) (A.take t) L)))]) 0 (Nat.zero_le _) (St.le_of id (by simp [-List.getD_eq_getElem?_getD, SYX, iv, Tle, AVle, A0le, Mem.get, putA]) (by simp [-List.getD_eq_getElem?_getD, SYX, Mle, Ele, Hle, Tle, AVle, A0le, Mem.get, putA]) (by simp [SYX]) (by simp [SYX])) ?_
            intro t ht
            simp only [↓PX, SX, SYX, EY, simprocAttr, TYX, UX, guard_un, IOX]
            refine cond_split (fun h0 => ?_) (fun h0 => ?_)
            · have h0 : t < A.length := by simpa using h0
              have hAt : A.getD t 0 ∈ A := by
                rw [List.getD_eq_getElem?_getD, List.getElem?_eq_getElem h0]; exact List.getElem_mem _
              have hAn := hlt _ hAt
              have ip : (iP A).getD t undef = .int .i64 ((A.getD t 0 : Nat) : Int) := by
                unfold iP
                rw [iL_ld (by rw [List.length_map]; exact h0), List.getD_eq_getElem?_getD, List.getElem?_map, List.getElem?_eq_getElem h0, List.getD_eq_getElem?_getD, List.getElem?_eq_getElem h0]; rfl
              have ld3 := eL_ld (l := L) (j := t) (by omega)
              have st := eL_st (l := putA (asc (rsd s x)) (A.take t) L) (j := A.getD t 0) (v := L.getD t 0) (by rw [putA_len, hla]; exact hAn)
              have ps := putA_snoc (A.take t) (asc (rsd s x)) L (A.getD t 0)
              rw [← take_snoc h0, List.length_take, Nat.min_eq_left (Nat.le_of_lt h0)] at ps
              rw [← ps] at st
              have w5 : IntKind.i64.wrap ((t : Int) + 1) = ((t + 1 : Nat) : Int) := wS (by omega)
              have hpl2 : (putA (asc (rsd s x)) (A.take t) L).length = x.length := by rw [putA_len, hla]
              generalize A.getD t 0 = k at ip hAn st ps
              repeat (first | refine DrawVC.intro (by kernel_rfl) ?_ | refine And.intro (by omega) ?_ | exact trivial | simp only [↓PX, SX, SYX, EY, simprocAttr, TYX, UX, guard_un, IOX, ip, ld3, w5, st])
              exact ⟨by unfold iP; rw [iL_len, List.length_map]; exact h0, by omega, by omega, by omega, by rw [hpl2]; omega, t + 1, by omega, by omega, (St.le_of id (by simp [-List.getD_eq_getElem?_getD, SYX, iv, Tle, AVle, A0le, Mem.get]) (by simp [-List.getD_eq_getElem?_getD, SYX, Mle, Ele, Hle, Tle, AVle, A0le, Mem.get]) (by simp [SYX]) (by simp [SYX]))⟩
            · have h0 : t = A.length := by
                have : A.length ≤ t := by simpa using h0
                omega
              subst h0
              have ef : List.take A.length A = A := List.take_length
              simp only [↓PX, SX, SYX, EY, simprocAttr, TYX, UX, guard_un, IOX, ef, hput]
              rw [hml]
      · have b2 : decide ((64 : Int) < (x.length : Int)) = true := decide_eq_true (by omega)
        have e : pm s x y = ([], [], 50) := by unfold pm; rw [if_pos hk, if_neg (by omega)]
        rw [e]
        refine contract_of (N := _) (vars := _) (c := bodyOf Try.f12) Try.func12 (body_eq rfl) rfl rfl (by rfl) mixed _ _ trivial 1000 ?_
        simp only [bodyOf, Try.f12, Option.getD_some, argA, argE, List.length_cons, List.length_nil, Nat.reduceAdd, Nat.reduceSub, List.replicate, List.cons_append, List.nil_append]
        simp only [↓PX, SX, SYX, EY, simprocAttr, TYX, UX, guard_un, IOX]
        refine CallVC.intro (u_Modulus s) ⟨rfl, trivial⟩ rfl rfl ?_
        simp only [↓PX, SX, SYX, EY, simprocAttr, TYX, UX, guard_un, IOX, he, b1, b2]
    · have b1 : ((x.length : Int) != (y.length : Int)) = true := by simp; omega
      have e : pm s x y = ([], [], 50) := by unfold pm; rw [if_pos hk, if_neg (by omega)]
      rw [e]
      refine contract_of (N := _) (vars := _) (c := bodyOf Try.f12) Try.func12 (body_eq rfl) rfl rfl (by rfl) mixed _ _ trivial 1000 ?_
      simp only [bodyOf, Try.f12, Option.getD_some, argA, argE, List.length_cons, List.length_nil, Nat.reduceAdd, Nat.reduceSub, List.replicate, List.cons_append, List.nil_append]
      simp only [↓PX, SX, SYX, EY, simprocAttr, TYX, UX, guard_un, IOX]
      refine CallVC.intro (u_Modulus s) ⟨rfl, trivial⟩ rfl rfl ?_
      simp only [↓PX, SX, SYX, EY, simprocAttr, TYX, UX, guard_un, IOX, he, b1]
end Go.Sx
