/-
  The field's functions and the reference's, for every sort at once: no sort counts as the modulus 1. No conditions.
-/
import Derived.Test.YtmgheellmllfpaaFldO
import Derived.Test.YtmgheellmllfpaaFldP
import Derived.Test.YtmgheellmllfpaaEqe
namespace Go.Sx
open Go.Proofs
-- SY
-- TY: TYX
set_option maxRecDepth 100000
set_option linter.unusedSimpArgs false
set_option pp.deepTerms false
set_option pp.deepTerms.threshold 3
/-- The modulus of a sort; 1 where there is none. -/
def md (s : Int) : Nat := if s = 0 then PA else if s = 1 then PB else if s = 2 then PC else if s = 3 then PD else 1
def kn (s : Int) : Bool := s == 0 || s == 1 || s == 2 || s == 3
/-- How often 2 divides the modulus less 1. -/
def adc (s : Int) : Int := if s = 0 then 9 else if s = 1 then 11 else if s = 2 then 32 else if s = 3 then 32 else 0
/-- The error of a sort. -/
def eS (s : Int) : Int := if kn s then 0 else 20
theorem md_0 : md 0 = PA := rfl
theorem md_1 : md 1 = PB := rfl
theorem md_2 : md 2 = PC := rfl
theorem md_3 : md 3 = PD := rfl
inductive Srt (s : Int) : Prop where
  | yes (hk : kn s = true) (he : eS s = 0) (sm ng sq : Nat) (F : FS s (md s) (adc s) sm ng sq) (R : RS s (md s)) (P : Num.PR (md s)) (h2 : 2 < md s)
  | no (hk : kn s = false) (he : eS s = 20) (hm : md s = 1) (F : NS s) (R : RN s) (ha : adc s = 0) (h : s < 0 ∨ 3 < s)
theorem srt (s : Int) : Srt s := by
  rcases sort_cases s with rfl | rfl | rfl | rfl | ⟨h0, h1, h2, h3⟩
  · exact .yes rfl rfl _ _ _ SA' RA Num.fermat0 (by decide)
  · exact .yes rfl rfl _ _ _ SB' RB Num.fermat1 (by decide)
  · exact .yes rfl rfl _ _ _ SC' RC Num.fermat2 (by decide)
  · exact .yes rfl rfl _ _ _ SD' RD Num.fermat3 (by decide)
  · have hk : kn s = false := by simp only [kn, h0, h1, h2, h3, Bool.or_self]
    refine .no hk (by simp [eS, hk]) ?_ (NS.mk' s h0 h1 h2 h3) (RN.mk' s h0 h1 h2 h3) ?_ ?_ <;> simp only [beq_eq_false_iff_ne, ne_eq] at h0 h1 h2 h3
    · simp only [md, h0, h1, h2, h3, if_false]
    · simp only [adc, h0, h1, h2, h3, if_false]
    · omega
theorem md_pos (s : Int) : 0 < md s := by
  cases srt s with
  | yes _ _ _ _ _ F => have := F.one; omega
  | no _ _ hm => omega
theorem md_lt (s : Int) : md s * 2 ≤ W256 := by
  cases srt s with
  | yes _ _ _ _ _ F => exact F.half
  | no _ _ hm => rw [hm]; decide
theorem md_mod (s : Int) (x : Nat) : x % md s < md s := Nat.mod_lt _ (md_pos s)
theorem md_w (s : Int) (x : Nat) : x % md s < W256 := by have := md_mod s x; have := md_lt s; omega
theorem md_w2 {s : Int} {x : Nat} (h : x < md s) : x < W256 := by have := md_lt s; omega
/-- 1 by a; 0 where a is 0. -/
def inv (s : Int) (a : Nat) : Nat := a ^ (md s - 2) % md s
/-- The error of an inverse. -/
def eI (s : Int) (a : Nat) : Int := if kn s then (if a % md s = 0 then 10 else 0) else 20
theorem inv_lt (s : Int) (a : Nat) : inv s a < md s := md_mod s _
section
variable (s : Int) (a b : Nat) (ha : a < W256) (hb : b < W256)
include ha hb
theorem u_Add : Contract Try.prog 17 [.val (.int .i64 s), .val (EN a), .val (EN b)] [.val (EN ((a + b) % md s))] := by
  cases srt s with
  | yes _ _ _ _ _ F => exact c_Add F a b ha hb
  | no _ _ hm F => rw [hm, Nat.mod_one]; exact n_Add F a b
theorem u_Sub : Contract Try.prog 18 [.val (.int .i64 s), .val (EN a), .val (EN b)] [.val (EN ((a + (md s - b % md s) % md s) % md s))] := by
  cases srt s with
  | yes _ _ _ _ _ F => exact c_Sub F a b ha hb
  | no _ _ hm F => rw [hm, Nat.mod_one]; exact n_Sub F a b
theorem u_Mul : Contract Try.prog 13 [.val (.int .i64 s), .val (EN a), .val (EN b)] [.val (EN (a * b % md s))] := by
  cases srt s with
  | yes _ _ _ _ _ F => exact c_Mul F a b ha hb
  | no _ _ hm F => rw [hm, Nat.mod_one]; exact n_Mul F a b
theorem u_Exp : Contract Try.prog 15 [.val (.int .i64 s), .val (EN a), .val (EN b)] [.val (EN (a ^ b % md s))] := by
  cases srt s with
  | yes _ _ _ _ _ F => exact c_Exp F a b ha hb
  | no _ _ hm F => rw [hm, Nat.mod_one]; exact n_Exp F a b
theorem v_Add : Contract Try.prog 30 [.val (.int .i64 s), .val (EN a), .val (EN b)] [.val (EN ((a + b) % md s))] := by
  cases srt s with
  | yes _ _ _ _ _ _ F => exact r_Add F a b ha hb
  | no _ _ hm _ F => rw [hm, Nat.mod_one]; exact rn_Add F a b
theorem v_Sub : Contract Try.prog 31 [.val (.int .i64 s), .val (EN a), .val (EN b)] [.val (EN ((a + (md s - b % md s) % md s) % md s))] := by
  cases srt s with
  | yes _ _ _ _ _ _ F => exact r_Sub F a b ha hb
  | no _ _ hm _ F => rw [hm, Nat.mod_one]; exact rn_Sub F a b
theorem v_Mul : Contract Try.prog 14 [.val (.int .i64 s), .val (EN a), .val (EN b)] [.val (EN (a * b % md s))] := by
  cases srt s with
  | yes _ _ _ _ _ _ F => exact r_Mul F a b ha hb
  | no _ _ hm _ F => rw [hm, Nat.mod_one]; exact rn_Mul F a b
theorem v_Exp : Contract Try.prog 16 [.val (.int .i64 s), .val (EN a), .val (EN b)] [.val (EN (a ^ b % md s))] := by
  cases srt s with
  | yes _ _ _ _ _ _ F => exact r_Exp F a b ha hb
  | no _ _ hm _ F => rw [hm, Nat.mod_one]; exact rn_Exp F a b ha hb
end
section
variable (s : Int) (a : Nat) (ha : a < W256)
include ha
theorem u_Neg : Contract Try.prog 19 [.val (.int .i64 s), .val (EN a)] [.val (EN ((md s - a % md s) % md s))] := by
  cases srt s with
  | yes _ _ _ _ _ F => exact c_Neg F a ha
  | no _ _ hm F => rw [hm, Nat.mod_one]; exact n_Neg F a
theorem u_Inv : Contract Try.prog 20 [.val (.int .i64 s), .val (EN a)] [.val (EN (inv s a)), .val (.int .i64 (eI s a))] := by
  unfold inv eI
  cases srt s with
  | yes hk _ _ _ _ F _ P h2 =>
    rw [hk, if_pos rfl]
    by_cases h : a % md s = 0
    · rw [if_pos h, Nat.pow_mod, h, Nat.zero_pow (by omega), Nat.zero_mod]
      exact c_Inv0 F a ha h
    · rw [if_neg h]; exact c_Inv F a ha h
  | no hk _ hm F => rw [hk, hm, Nat.mod_one]; exact n_Inv F a
theorem v_Of : Contract Try.prog 52 [.val (.int .i64 s), .val (EN a)] [.val (EN (a % md s))] := by
  cases srt s with
  | yes _ _ _ _ _ _ F => exact F.of a ha
  | no _ _ hm _ F => rw [hm, Nat.mod_one]; exact F.of a
theorem v_Neg : Contract Try.prog 32 [.val (.int .i64 s), .val (EN a)] [.val (EN ((md s - a % md s) % md s))] := by
  cases srt s with
  | yes _ _ _ _ _ _ F => exact r_Neg F a ha
  | no _ _ hm _ F => rw [hm, Nat.mod_one]; exact rn_Neg F a
end
/-- What the modulus is called, and the error. -/
def mN (s : Int) : Nat := if kn s then md s else 0
theorem mN_lt (s : Int) : mN s < W256 := by
  unfold mN
  split
  · have := md_lt s; have := md_pos s; omega
  · decide
theorem u_of (s : Int) : ∃ sm ng sq, Contract Try.prog 50 [.val (.int .i64 s)] [.val (NV (mN s) (adc s) sm ng sq), .val (.int .i64 (eS s))] := by
  unfold mN
  cases srt s with
  | yes hk he sm ng sq F => rw [hk, he, if_pos rfl]; exact ⟨sm, ng, sq, F.of⟩
  | no hk he _ F _ ha => rw [hk, he, ha]; exact ⟨0, 0, 0, F.of⟩
theorem u_Modulus (s : Int) : Contract Try.prog 26 [.val (.int .i64 s)] [.val (EN (mN s)), .val (.int .i64 (eS s))] := by
  obtain ⟨sm, ng, sq, F⟩ := u_of s
  refine contract_of (N := _) (vars := _) (c := bodyOf Try.f26) Try.func26 (body_eq rfl) rfl rfl (by rfl) mixed _ _ trivial 1000 ?_
  simp only [bodyOf, Try.f26, Option.getD_some, argA, argE, List.length_cons, List.length_nil, Nat.reduceAdd, Nat.reduceSub, List.replicate, List.cons_append, List.nil_append]
  simp only [↓PX, SX, SYX, EY, simprocAttr, TYX]
  refine CallVC.intro (F) ⟨rfl, trivial⟩ rfl rfl ?_
  simp only [↓PX, SX, SYX, EY, simprocAttr, TYX, foldNV, cellsNV]
theorem v_Modulus (s : Int) : Contract Try.prog 27 [.val (.int .i64 s)] [.val (EN (mN s)), .val (.int .i64 (eS s))] := by
  unfold mN
  cases srt s with
  | yes hk he sm ng sq _ F => rw [hk, he, if_pos rfl]; exact F.modulus
  | no hk he _ _ F => rw [hk, he]; exact F.modulus
end Go.Sx
