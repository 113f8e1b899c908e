/-
  DomainZeros. No conditions.
-/
import Derived.Test.YtndmafefpiigoaaZDop
import Derived.Test.YtndmafefpiigoaaZPoy
namespace Go.Sx
open Go.Proofs Go.Num
-- SY
-- TY: TYX, UX
set_option maxRecDepth 100000
set_option linter.unusedSimpArgs false
set_option pp.deepTerms true
set_option pp.maxSteps 100000
theorem and_mask (x : Int) {y : Nat} (h : y < 9223372036854775808) : ∃ r : Nat, r ≤ y ∧ bits .and .i64 x (y : Int) = (r : Int) := by
  have h1 : (BitVec.ofInt 64 (y : Int)).toNat = y := by
    rw [BitVec.toNat_ofInt]; omega
  refine ⟨(BitVec.ofInt 64 x &&& BitVec.ofInt 64 (y : Int)).toNat, ?_, ?_⟩
  · rw [BitVec.toNat_and, h1]; exact Nat.and_le_right
  · show IntKind.i64.wrap (((BitVec.ofInt 64 x &&& BitVec.ofInt 64 (y : Int)).toNat : Nat) : Int) = _
    have h2 : (BitVec.ofInt 64 x &&& BitVec.ofInt 64 (y : Int)).toNat ≤ y := by
      rw [BitVec.toNat_and, h1]; exact Nat.and_le_right
    exact wI (by omega) (by omega)
/-- Is it one of the first points? -/
noncomputable def isP (s k : Int) (x : Nat) : Nat → Bool
  | 0 => false
  | i + 1 => isP s k x i || eqN (pt s k i) x
theorem isP_iff {s k : Int} {x : Nat} (hx : x < W256) : ∀ {i : Nat}, isP s k x i = true ↔ ∃ j, j < i ∧ pt s k j = x
  | 0 => by simp [isP]
  | i + 1 => by
    unfold isP
    rw [Bool.or_eq_true, isP_iff hx, eqN_eq (pt_w _ _ _) hx, beq_iff_eq]
    constructor
    · rintro (⟨j, hj, e⟩ | e)
      · exact ⟨j, by omega, e⟩
      · exact ⟨i, by omega, e⟩
    · rintro ⟨j, hj, e⟩
      rcases Nat.lt_or_ge j i with h | h
      · exact .inl ⟨j, h, e⟩
      · have : j = i := by omega
        subst this
        exact .inr e
theorem pt_lt {s k : Int} (h : ptO s k = true) (i : Nat) : pt s k i < md s := by
  cases i with
  | zero =>
    have P := pr_of (ptO_iff.1 h).1
    exact P.1
  | succ i => exact md_mod _ _
theorem isP_all {s : Int} {n : Nat} (h : ptO s n = true) (x : Nat) : isP s n (x % md s) (2 ^ n) = (vaN s n (x % md s) == 0) := by
  rw [Bool.eq_iff_iff, isP_iff (md_w s _), beq_iff_eq, va_zero h]
  constructor
  · rintro ⟨j, hj, e⟩; exact ⟨j, hj, by rw [e]⟩
  · rintro ⟨j, hj, e⟩
    refine ⟨j, hj, ?_⟩
    rw [κ_inj, Nat.mod_eq_of_lt (pt_lt h j), Nat.mod_mod] at e
    exact e
theorem c_DomainZeros (s k i j : Int) (x : Nat) (hx : x < W256) : Contract Try.prog 13 [.val (.int .i64 s), .val (.int .i64 k), .val (.int .i64 i), .val (.int .i64 j), .val (EN x)] [.val (.bool true)] := by
  cases h : ptO s k with
  | false =>
    have e1 : ptL s k = [] := by simp [ptL, h]
    have e3 : eK s k ≠ 0 := fun e => by rw [eK_0.1 e] at h; cases h
    have e4 : (eK s k != 0) = true := by simp [e3]
    have c1 := u_Points s k
    rw [e1] at c1
    refine contract_of (N := _) (vars := _) (c := bodyOf Try.f13) Try.func13 (body_eq rfl) rfl rfl (by rfl) mixed _ _ trivial 1000 ?_
    simp only [bodyOf, Try.f13, Option.getD_some, argA, argE, List.length_cons, List.length_nil, Nat.reduceAdd, Nat.reduceSub, List.replicate, List.cons_append, List.nil_append]
    simp only [↓PX, SX, SYX, EY, simprocAttr, TYX, UX]
    refine CallVC.intro (c_alive6) trivial rfl rfl ?_
    simp only [↓PX, SX, SYX, EY, simprocAttr, TYX, UX]
    refine CallVC.intro (c1) ⟨rfl, rfl, trivial⟩ rfl rfl ?_
    simp only [↓PX, SX, SYX, EY, simprocAttr, TYX, UX, e4]
  | true =>
    obtain ⟨n, rfl⟩ : ∃ n : Nat, k = n := ⟨k.toNat, by have := ptO_iff.1 h; omega⟩
    have hp := pow_le9 (k := n) (by have := ptO_iff.1 h; omega)
    have hpos := Nat.two_pow_pos n
    have hs2 := shl_i (k := n) (by have := ptO_iff.1 h; omega)
    have hcv := conv_u (n := n) (by have := ptO_iff.1 h; omega)
    have hlen := ptL_len h
    rw [Int.toNat_natCast] at hlen
    have c1 := u_Points s n
    rw [hlen, eK_0.2 h] at c1
    have ca := u_Add s x 0 hx (by decide)
    rw [Nat.add_zero] at ca
    have cv := u_Vanish s n (x % md s) (md_w s _)
    rw [eK_0.2 h] at cv
    have hth := isP_all h x
    have hvw : vaN s n (x % md s) < W256 := vaN_w _ _ _
    have hve : eqN (vaN s n (x % md s)) 0 = (vaN s n (x % md s) == 0) := eqN_eq hvw (by decide)
    obtain ⟨N, hN⟩ : ∃ N, 2 ^ n = N := ⟨_, rfl⟩
    have hat : ∀ j, j < N → (ptL s n).getD j 0 = pt s n j := fun j hj => ptL_at h (by rw [Int.toNat_natCast]; omega)
    rw [hN] at c1 hp hpos hs2 hlen hth
    refine contract_of (N := _) (vars := _) (c := bodyOf Try.f13) Try.func13 (body_eq rfl) rfl rfl (by rfl) mixed _ _ trivial 1000 ?_
    simp only [bodyOf, Try.f13, Option.getD_some, argA, argE, List.length_cons, List.length_nil, Nat.reduceAdd, Nat.reduceSub, List.replicate, List.cons_append, List.nil_append]
    simp only [↓PX, SX, SYX, EY, simprocAttr, TYX, UX]
    refine CallVC.intro (c_alive6) trivial rfl rfl ?_
    simp only [↓PX, SX, SYX, EY, simprocAttr, TYX, UX]
    refine CallVC.intro (c1) ⟨rfl, rfl, trivial⟩ rfl rfl ?_
    simp only [↓PX, SX, SYX, EY, simprocAttr, TYX, UX]
    refine CallVC.intro (ca) ⟨rfl, rfl, rfl, trivial⟩ rfl rfl ?_
    simp only [↓PX, SX, SYX, EY, simprocAttr, TYX, UX]
    refine CallVC.intro (cv) ⟨rfl, rfl, rfl, trivial⟩ rfl rfl ?_
    simp only [↓PX, SX, SYX, EY, simprocAttr, TYX, UX]
    refine loop_hav ?_
    simp only [↓PX, SX, SYX, EY, simprocAttr, TYX, UX]
    refine loop_go mixed (by trivial) (γ := Nat) (fun a => a ≤ N) (fun a => N - a) (fun a => [(17, iv a), (16, .o (.v (.bool (isP s n (x % md s) a))))]) (fun a => []) 0 (by omega)
      (St.le_of id (by simp [-List.getD_eq_getElem?_getD, SYX, iv, Tle, AVle, A0le, Mem.get, isP]) (by simp [-List.getD_eq_getElem?_getD, SYX, Mle, Ele, Hle, Tle, AVle, A0le, Mem.get, isP]) (by simp [SYX]) (by simp [SYX])) ?_
    intro a ha
    simp only [↓PX, SX, SYX, EY, simprocAttr, TYX, UX]
    refine cond_split (fun h0 => ?_) (fun h0 => ?_)
    · have h0 : a < N := by simpa using h0
      have hla : a < (ptL s n).length := by omega
      have ld := eL_ld hla
      rw [hat a h0] at ld
      have ht : isP s n (x % md s) (a + 1) = (isP s n (x % md s) a || eqN (pt s n a) (x % md s)) := rfl
      cases hb : isP s n (x % md s) a with
      | true =>
        rw [hb, Bool.true_or] at ht
        simp only [↓PX, SX, SYX, EY, simprocAttr, TYX, UX]
        repeat (first | refine DrawVC.intro (by kernel_rfl) ?_ | refine And.intro (by omega) ?_ | exact trivial)
        simp only [↓PX, SX, SYX, EY, simprocAttr, TYX, UX, wS (j := a) (by omega)]
        exact ⟨a + 1, by omega, by omega, (St.le_of id (by simp [-List.getD_eq_getElem?_getD, SYX, iv, Tle, AVle, A0le, Mem.get, ht]) (by simp [-List.getD_eq_getElem?_getD, SYX, Mle, Ele, Hle, Tle, AVle, A0le, Mem.get, ht]) (by simp [SYX]) (by simp [SYX]))⟩
      | false =>
        rw [hb, Bool.false_or] at ht
        simp only [↓PX, SX, SYX, EY, simprocAttr, TYX, UX, hlen, ld]
        repeat (first | refine DrawVC.intro (by kernel_rfl) ?_ | refine And.intro (by omega) ?_ | exact trivial)
        simp only [↓PX, SX, SYX, EY, simprocAttr, TYX, UX, wS (j := a) (by omega)]
        exact ⟨a + 1, by omega, by omega, (St.le_of id (by simp [-List.getD_eq_getElem?_getD, SYX, iv, Tle, AVle, A0le, Mem.get, ht]) (by simp [-List.getD_eq_getElem?_getD, SYX, Mle, Ele, Hle, Tle, AVle, A0le, Mem.get, ht]) (by simp [SYX]) (by simp [SYX]))⟩
    · have h0 : a = N := by
        have : N ≤ a := by simpa using h0
        omega
      rw [h0]
      have hbb : (((vaN s n (x % md s) == 0) : Bool) != (vaN s n (x % md s) == 0)) = false := by simp
      simp only [↓PX, SX, SYX, EY, simprocAttr, TYX, UX, hth, hve]
      refine ExVC.intro _ (X_bne Try.underlying4 rfl rfl) ?_
      have hb1 : ((N : Int) != (N : Int)) = false := by simp
      obtain ⟨i', hi', ei⟩ := and_mask i (y := N - 1) (by omega)
      obtain ⟨j', hj', ej⟩ := and_mask j (y := N - 1) (by omega)
      have wN : IntKind.i64.wrap ((N : Int) - 1) = ((N - 1 : Nat) : Int) := by rw [wI (by omega) (by omega)]; omega
      have hlj : j' < (ptL s n).length := by omega
      have ldj := eL_ld hlj
      rw [hat j' (by omega)] at ldj
      have cl := u_Lagrange s n i' (pt s n j') (pt_w _ _ _)
      have hle : lgE s n i' = 0 := by
        have : inL s n i' = true := by
          simp only [inL, h, Bool.true_and, Bool.and_eq_true, decide_eq_true_eq, Int.toNat_natCast]; omega
        unfold lgE; rw [if_pos h, if_pos this]
      rw [hle, lg_pt h (by omega) (by omega)] at cl
      simp only [↓PX, SX, SYX, EY, simprocAttr, TYX, UX, hbb, hcv, b_shl_iu, hs2, hb1, wN, ei, ej, hlen, ldj]
      repeat (first | refine DrawVC.intro (by kernel_rfl) ?_ | refine And.intro (by omega) ?_ | exact trivial)
      by_cases hij : i' = j'
      · subst hij
        have hbi : ((i' : Int) == (i' : Int)) = true := by simp
        rw [if_pos rfl] at cl
        refine CallVC.intro (cl) ⟨rfl, rfl, rfl, rfl, trivial⟩ rfl rfl ?_
        simp only [↓PX, SX, SYX, EY, simprocAttr, TYX, UX, hbi, eqN_self]
      · have hbi : ((i' : Int) == (j' : Int)) = false := by simp; omega
        rw [if_neg hij] at cl
        refine CallVC.intro (cl) ⟨rfl, rfl, rfl, rfl, trivial⟩ rfl rfl ?_
        simp only [↓PX, SX, SYX, EY, simprocAttr, TYX, UX, hbi, eqN_self]
end Go.Sx
