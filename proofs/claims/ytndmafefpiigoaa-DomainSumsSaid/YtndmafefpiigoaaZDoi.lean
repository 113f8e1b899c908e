/-
  Reversed bits. No conditions.
-/
import Derived.Test.YtndmafefpiigoaaZDoh
namespace Go.Sx
open Go.Proofs Go.Num
-- SY
-- TY: TYX, UX
set_option maxRecDepth 100000
set_option linter.unusedSimpArgs false
set_option pp.deepTerms true
set_option pp.maxSteps 100000
/-- Neighbours change places. -/
noncomputable def rsw (c k x : Nat) : Nat := uor (uand (ushr x k) c) (ushl (uand x c) k)
noncomputable def rvB (x : Nat) : Nat := uor (ushr (rsw 281470681808895 16 (rsw 71777214294589695 8 x)) 32) (ushl (rsw 281470681808895 16 (rsw 71777214294589695 8 x)) 32)
noncomputable def rv64 (x : Nat) : Nat := rvB (rsw 1085102592571150095 4 (rsw 3689348814741910323 2 (rsw 6148914691236517205 1 x)))
theorem u_RevBytes (x : Nat) : Contract Try.prog 131 [.val (u64 x)] [.val (u64 (rvB x))] := by
  refine contract_of (N := _) (vars := _) (c := bodyOf Try.f131) Try.func131 (body_eq rfl) rfl rfl (by rfl) mixed _ _ trivial 1000 ?_
  simp only [bodyOf, Try.f131, Option.getD_some, argA, argE, List.length_cons, List.length_nil, Nat.reduceAdd, Nat.reduceSub, List.replicate, List.cons_append, List.nil_append]
  simp only [↓PX, SX, SYX, EY, simprocAttr, TYX, UX]
  rfl
theorem u_Reverse (x : Nat) : Contract Try.prog 124 [.val (u64 x)] [.val (u64 (rv64 x))] := by
  refine contract_of (N := _) (vars := _) (c := bodyOf Try.f124) Try.func124 (body_eq rfl) rfl rfl (by rfl) mixed _ _ trivial 1000 ?_
  simp only [bodyOf, Try.f124, Option.getD_some, argA, argE, List.length_cons, List.length_nil, Nat.reduceAdd, Nat.reduceSub, List.replicate, List.cons_append, List.nil_append]
  simp only [↓PX, SX, SYX, EY, simprocAttr, TYX, UX]
  refine CallVC.intro (u_RevBytes _) ⟨rfl, trivial⟩ rfl rfl ?_
  simp only [↓PX, SX, SYX, EY, simprocAttr, TYX, UX]
  rfl
/-- The same, to be counted out. -/
def rswP (c k x : Nat) : Nat := ((x / 2 ^ k) &&& c) ||| ((x &&& c) * 2 ^ k % 18446744073709551616)
def rvP (x : Nat) : Nat :=
  let y := rswP 281470681808895 16 (rswP 71777214294589695 8 (rswP 1085102592571150095 4 (rswP 3689348814741910323 2 (rswP 6148914691236517205 1 x))))
  (y / 2 ^ 32) ||| (y * 2 ^ 32 % 18446744073709551616)
theorem rswP_lt {c k x : Nat} (hc : c < 18446744073709551616) (hx : x < 18446744073709551616) : rswP c k x < 18446744073709551616 := by
  unfold rswP
  have h1 : (x / 2 ^ k) &&& c < 2 ^ 64 := Nat.and_lt_two_pow _ (by simpa using hc)
  exact Nat.or_lt_two_pow (n := 64) h1 (Nat.mod_lt _ (by decide))
theorem rsw_eq {c k x : Nat} (hc : c < 18446744073709551616) (hx : x < 18446744073709551616) (hk : k < 64) : rsw c k x = rswP c k x := by
  have h1 : x / 2 ^ k < 18446744073709551616 := Nat.lt_of_le_of_lt (Nat.div_le_self _ _) hx
  have h2 : (x / 2 ^ k) &&& c < 18446744073709551616 := by have := Nat.and_lt_two_pow (n := 64) (x / 2 ^ k) (y := c) (by simpa using hc); simpa using this
  have h3 : x &&& c < 18446744073709551616 := by have := Nat.and_lt_two_pow (n := 64) x (y := c) (by simpa using hc); simpa using this
  unfold rsw rswP
  rw [uor_eq, uand_eq, uand_eq, ushl_eq, ushr_eq]
  have hs : sh k = 2 ^ k := by unfold sh; rw [Nat.min_eq_left (by omega)]
  rw [hs, Nat.mod_eq_of_lt h1, Nat.mod_eq_of_lt hc, Nat.mod_eq_of_lt hx, Nat.mod_eq_of_lt h2, Nat.mod_mod]
theorem rv64_eq {x : Nat} (hx : x < 18446744073709551616) : rv64 x = rvP x := by
  have h1 := rswP_lt (c := 6148914691236517205) (k := 1) (by decide) hx
  have h2 := rswP_lt (c := 3689348814741910323) (k := 2) (by decide) h1
  have h3 := rswP_lt (c := 1085102592571150095) (k := 4) (by decide) h2
  have h4 := rswP_lt (c := 71777214294589695) (k := 8) (by decide) h3
  have h5 := rswP_lt (c := 281470681808895) (k := 16) (by decide) h4
  unfold rv64 rvB
  rw [rsw_eq (by decide) hx (by decide), rsw_eq (by decide) h1 (by decide), rsw_eq (by decide) h2 (by decide), rsw_eq (by decide) h3 (by decide), rsw_eq (by decide) h4 (by decide)]
  rw [uor_eq, ushl_eq, ushr_eq, sh_32]
  unfold rvP
  have h6 : ∀ y : Nat, y < 18446744073709551616 → y / 4294967296 % 18446744073709551616 = y / 4294967296 := fun y hy => Nat.mod_eq_of_lt (Nat.lt_of_le_of_lt (Nat.div_le_self _ _) hy)
  rw [h6 _ h5, Nat.mod_mod]
/-- The bits of a number below 2^k, turned round. -/
def br : Nat → Nat → Nat
  | 0, _ => 0
  | k + 1, i => i % 2 * 2 ^ k + br k (i / 2)
end Go.Sx
