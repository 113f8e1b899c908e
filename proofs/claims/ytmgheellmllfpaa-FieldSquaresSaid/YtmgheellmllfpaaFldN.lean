/-
  Walks of the references: Mul. No conditions.
-/
import Derived.Test.YtmgheellmllfpaaFldM
namespace Go.Sx
open Go.Proofs
-- TY: TYX, cellsE, foldE, foldN, cellsN, b_EN, k32, kA, kB, ud3, it63, Int.toNat_natCast
set_option maxRecDepth 100000
set_option linter.unusedSimpArgs false
set_option pp.deepTerms false
set_option pp.deepTerms.threshold 3
/-- A word of a number, its bits. -/
def LX (b j : Nat) : Nat := b / 2 ^ (64 * j) % 18446744073709551616
theorem getLX (b j : Nat) (hj : j < 4) : [u64 (L0 b), u64 (L1 b), u64 (L2 b), u64 (L3 b)].getD j undef = u64 (LX b j) := by
  have h : j = 0 ∨ j = 1 ∨ j = 2 ∨ j = 3 := by omega
  rcases h with rfl | rfl | rfl | rfl
  · simp only [LX, Nat.mul_zero, Nat.pow_zero, Nat.div_one]; rfl
  · rfl
  · rfl
  · rfl
theorem bit_low (x r : Nat) (hr : r < 64) : x % 18446744073709551616 / 2 ^ r % 2 = x / 2 ^ r % 2 := by
  have e : 18446744073709551616 = 2 ^ r * 2 ^ (64 - r) := by rw [← Nat.pow_add, show r + (64 - r) = 64 by omega]
  rw [e, Nat.mod_mul_right_div_self]
  exact Nat.mod_mod_of_dvd _ ⟨2 ^ (63 - r), by rw [← Nat.pow_succ', show (63 - r).succ = 64 - r by omega]⟩
theorem bitLX (b i : Nat) : ushr (LX b (i / 64)) (i % 64) % 2 = b / 2 ^ i % 2 := by
  have hr : i % 64 < 64 := Nat.mod_lt _ (by decide)
  rw [ushr_eq]
  unfold LX sh
  rw [show min (i % 64) 64 = i % 64 by omega, bit_low _ _ hr, Nat.div_div_eq_div_mul, ← Nat.pow_add, show 64 * (i / 64) + i % 64 = i by omega]
/-- What stands of a counter that goes down. -/
structure Down (i : Nat) : Prop where
  lt : i < 256
theorem Down.hz (i : Nat) : ((i + 1 : Nat) : Int) - 1 = (i : Int) := by omega
theorem Down.ge (i : Nat) : decide ((0 : Int) ≤ (i : Int)) = true := by simp
theorem Down.quo {i : Nat} (h : i < 256) : IntKind.i64.wrap ((i : Int).tdiv 64) = ((i / 64 : Nat) : Int) := by
  rw [IntKind.wrap_i64, Int.tdiv_eq_ediv_of_nonneg (by omega)]
  omega
theorem Down.rem (i : Nat) : (i : Int).tmod 64 = ((i % 64 : Nat) : Int) := by
  rw [Int.tmod_eq_emod_of_nonneg (by omega)]
  omega
theorem Down.conv (i : Nat) : (((i % 64 : Nat) : Int) % 18446744073709551616).toNat = i % 64 := by omega
theorem Down.j0 (i : Nat) : (0 ≤ ((i / 64 : Nat) : Int)) = True := eq_true (by omega)
theorem Down.j4 {i : Nat} (h : i < 256) : (((i / 64 : Nat) : Int) < 4) = True := by simp; omega
theorem Down.j {i : Nat} (h : i < 256) : (i / 64 < 4) = True := by simp; omega
theorem Down.next {i : Nat} (h : i < 256) : IntKind.i64.wrap ((i : Int) - 1) = (i : Int) - 1 := by
  rw [IntKind.wrap_i64]
  omega
theorem Down.end0 : ((0 : Nat) : Int) - 1 = -1 := rfl
theorem mul_step {m a b i o : Nat} (ho : o = a * (b / 2 ^ (i + 1)) % m) : ((o + o) % m + (b / 2 ^ i % 2) * a) % m = a * (b / 2 ^ i) % m := by
  have e : b / 2 ^ i = 2 * (b / 2 ^ (i + 1)) + b / 2 ^ i % 2 := by
    rw [Nat.pow_succ, ← Nat.div_div_eq_div_mul]
    omega
  conv => rhs; rw [e]
  generalize b / 2 ^ (i + 1) = q at *
  generalize b / 2 ^ i % 2 = c at *
  rw [ho, Nat.mod_add_mod, Nat.mul_add, ← Nat.add_mod_mod, Nat.add_assoc]
  have h1 : (a * q % m + (a * q % m + c * a % m)) % m = (a * q + (a * q + c * a)) % m := by
    rw [Nat.mod_add_mod, ← Nat.add_assoc, Nat.add_mod_mod, Nat.add_right_comm, Nat.add_mod_mod, Nat.add_right_comm, ← Nat.add_assoc]
  rw [h1]
  refine congrArg (· % m) ?_
  rw [Nat.mul_comm c a, Nat.mul_left_comm a 2 q, Nat.two_mul, Nat.add_assoc]
section
variable {s : Int} {m : Nat}
theorem r_Mul (F : RS s m) (a b : Nat) (ha : a < W256) (hb : b < W256) : Contract Try.prog 14 [.val (.int .i64 s), .val (EN a), .val (EN b)] [.val (EN (a * b % m))] := by
  have hmn : ¬ m = 0 := by have := F.one; omega
  rcases F.sorts with ⟨rfl | rfl, hm, hl⟩ | (rfl | rfl)
  ·
    refine contract_of (N := _) (vars := _) (c := bodyOf Try.f14) Try.func14 (body_eq rfl) rfl rfl (by rfl) mixed _ _ trivial 1000 ?_
    simp only [bodyOf, Try.f14, Option.getD_some, argA, argE, List.length_cons, List.length_nil, Nat.reduceAdd, Nat.reduceSub, List.replicate, List.cons_append, List.nil_append]
    simp only [SX, simprocAttr, TYX, cellsE, foldE, foldN, cellsN, b_EN, k32, kA, kB, ud3, it63, Int.toNat_natCast]
    refine ⟨by kernel_rfl, ?_⟩
    refine CallVC.intro (F.of a ha) ⟨rfl, rfl, trivial⟩ rfl rfl ?_
    simp only [SX, simprocAttr, TYX, cellsE, foldE, foldN, cellsN, b_EN, k32, kA, kB, ud3, it63, Int.toNat_natCast]
    refine XIx (u64 (L0 (a % m))) (by rfl) (by rfl) (by decide) (by decide) rfl ?_
    simp only [SX, simprocAttr, TYX, cellsE, foldE, foldN, cellsN, b_EN, k32, kA, kB, ud3, it63, Int.toNat_natCast]
    refine CallVC.intro (F.of b hb) ⟨rfl, rfl, trivial⟩ rfl rfl ?_
    simp only [SX, simprocAttr, TYX, cellsE, foldE, foldN, cellsN, b_EN, k32, kA, kB, ud3, it63, Int.toNat_natCast]
    refine XIx (u64 (L0 (b % m))) (by rfl) (by rfl) (by decide) (by decide) rfl ?_
    simp only [SX, simprocAttr, TYX, cellsE, foldE, foldN, cellsN, b_EN, k32, kA, kB, ud3, it63, Int.toNat_natCast]
    refine CallVC.intro hl ⟨rfl, trivial⟩ rfl rfl ?_
    simp only [SX, simprocAttr, TYX, cellsE, foldE, foldN, cellsN, b_EN, k32, kA, kB, ud3, it63, Int.toNat_natCast]
    refine ⟨hmn, ?_⟩
    refine X1 _ (by rfl) ?_
    rw [L0_of F hm, L0_of F hm, mul_law F hm]
    simp only [SX, simprocAttr, TYX, cellsE, foldE, foldN, cellsN, b_EN, k32, kA, kB, ud3, it63, Int.toNat_natCast]
  ·
    refine contract_of (N := _) (vars := _) (c := bodyOf Try.f14) Try.func14 (body_eq rfl) rfl rfl (by rfl) mixed _ _ trivial 1000 ?_
    simp only [bodyOf, Try.f14, Option.getD_some, argA, argE, List.length_cons, List.length_nil, Nat.reduceAdd, Nat.reduceSub, List.replicate, List.cons_append, List.nil_append]
    simp only [SX, simprocAttr, TYX, cellsE, foldE, foldN, cellsN, b_EN, k32, kA, kB, ud3, it63, Int.toNat_natCast]
    refine ⟨by kernel_rfl, ?_⟩
    refine CallVC.intro (F.of a ha) ⟨rfl, rfl, trivial⟩ rfl rfl ?_
    simp only [SX, simprocAttr, TYX, cellsE, foldE, foldN, cellsN, b_EN, k32, kA, kB, ud3, it63, Int.toNat_natCast]
    refine XIx (u64 (L0 (a % m))) (by rfl) (by rfl) (by decide) (by decide) rfl ?_
    simp only [SX, simprocAttr, TYX, cellsE, foldE, foldN, cellsN, b_EN, k32, kA, kB, ud3, it63, Int.toNat_natCast]
    refine CallVC.intro (F.of b hb) ⟨rfl, rfl, trivial⟩ rfl rfl ?_
    simp only [SX, simprocAttr, TYX, cellsE, foldE, foldN, cellsN, b_EN, k32, kA, kB, ud3, it63, Int.toNat_natCast]
    refine XIx (u64 (L0 (b % m))) (by rfl) (by rfl) (by decide) (by decide) rfl ?_
    simp only [SX, simprocAttr, TYX, cellsE, foldE, foldN, cellsN, b_EN, k32, kA, kB, ud3, it63, Int.toNat_natCast]
    refine CallVC.intro hl ⟨rfl, trivial⟩ rfl rfl ?_
    simp only [SX, simprocAttr, TYX, cellsE, foldE, foldN, cellsN, b_EN, k32, kA, kB, ud3, it63, Int.toNat_natCast]
    refine ⟨hmn, ?_⟩
    refine X1 _ (by rfl) ?_
    rw [L0_of F hm, L0_of F hm, mul_law F hm]
    simp only [SX, simprocAttr, TYX, cellsE, foldE, foldN, cellsN, b_EN, k32, kA, kB, ud3, it63, Int.toNat_natCast]
  ·
    refine contract_of (N := _) (vars := _) (c := bodyOf Try.f14) Try.func14 (body_eq rfl) rfl rfl (by rfl) mixed _ _ trivial 1000 ?_
    simp only [bodyOf, Try.f14, Option.getD_some, argA, argE, List.length_cons, List.length_nil, Nat.reduceAdd, Nat.reduceSub, List.replicate, List.cons_append, List.nil_append]
    simp only [SX, simprocAttr, TYX, cellsE, foldE, foldN, cellsN, b_EN, k32, kA, kB, ud3, it63, Int.toNat_natCast]
    refine CallVC.intro F.modulus ⟨rfl, trivial⟩ rfl rfl ?_
    simp only [SX, simprocAttr, TYX, cellsE, foldE, foldN, cellsN, b_EN, k32, kA, kB, ud3, it63, Int.toNat_natCast]
    refine CallVC.intro (F.of a ha) ⟨rfl, rfl, trivial⟩ rfl rfl ?_
    simp only [SX, simprocAttr, TYX, cellsE, foldE, foldN, cellsN, b_EN, k32, kA, kB, ud3, it63, Int.toNat_natCast]
    refine CallVC.intro (F.of b hb) ⟨rfl, rfl, trivial⟩ rfl rfl ?_
    simp only [SX, simprocAttr, TYX, cellsE, foldE, foldN, cellsN, b_EN, k32, kA, kB, ud3, it63, Int.toNat_natCast]
    refine X0 ?_
    simp only [SX, simprocAttr, TYX, cellsE, foldE, foldN, cellsN, b_EN, k32, kA, kB, ud3, it63, Int.toNat_natCast]
    have hbm : b % m < 2 ^ 256 := F.mod2 b
    refine loop_inv mixed (by trivial) (γ := Nat × Nat) (fun g => ⟨[.o (.v (.int .i64 2)), .o .any, .o .any, .o .any, .o (.p 3 0), .o (.p 7 0), .o (.p 11 0), .o (.p 59 0), .o .any, .o (.p 115 0), .o (.v (.int .i64 ((g.1 : Int) - 1))), .o .any, .o .any, .o .any, .o .any, .o .any, .o .any, .o .any, .o .any, .o .any, .o .any, .o .any, .o .any, .o .any, .o .any, .o .any, .o .any, .o .any, .o .any, .o .any, .o .any, .o .any, .o .any, .o .any, .o .any, .o .any, .o .any, .o .any, .o .any, .o .any, .o .any, .o .any, .o .any, .o .any, .o .any, .o .any, .o .any, .o .any, .o .any, .o .any, .o .any, .o .any, .o .any, .o .any, .o .any, .o .any, .o .any, .o .any, .o .any, .o .any, .o .any, .o .any, .o .any, .o .any, .o .any, .o .any, .o .any, .o .any, .o .any, .o .any, .o .any, .o .any, .o .any, .o .any, .o .any, .o .any, .o .any, .o .any, .o .any, .o .any],
        [(115, .box [u64 (L0 g.2), u64 (L1 g.2), u64 (L2 g.2), u64 (L3 g.2)]), (59, .box [u64 (L0 m), u64 (L1 m), u64 (L2 m), u64 (L3 m)]), (11, .box [u64 0, u64 0, u64 0, u64 0]),
          (7, .box [u64 (L0 (b % m)), u64 (L1 (b % m)), u64 (L2 (b % m)), u64 (L3 (b % m))]), (3, .box [u64 (L0 (a % m)), u64 (L1 (a % m)), u64 (L2 (a % m)), u64 (L3 (a % m))])], 1000⟩)
        (fun g => g.1 ≤ 256 ∧ g.2 < m ∧ g.2 = a % m * (b % m / 2 ^ g.1) % m) (fun g => g.1) (256, 0) ⟨Nat.le_refl _, by have := F.one; omega, by rw [Nat.div_eq_of_lt hbm, Nat.mul_zero, Nat.zero_mod]⟩ (St.le_of id (by simp [Tle, AVle, A0le, Mem.get]) (by simp [Mle, Ele, Mem.get]) (by simp) (by simp)) 1000 ?_
    rintro ⟨n, o⟩ ⟨hn, ho, hinv⟩
    simp only at hn ho hinv
    rcases n with _ | i
    · rw [Nat.pow_zero, Nat.div_one, ← Nat.mul_mod] at hinv
      simp only [SX, simprocAttr, TYX, cellsE, foldE, foldN, cellsN, b_EN, k32, kA, kB, ud3, it63, Int.toNat_natCast, Down.end0]
      rw [hinv]
    have hi : i < 256 := by omega
    have hj : i / 64 < 4 := by omega
    have hoW : o < W256 := Nat.lt_trans ho F.lt
    have hhalf := F.half
    have hstep := mul_step hinv
    obtain ⟨d, hd⟩ : ∃ d, (o + o) % m = d := ⟨_, rfl⟩
    have hdm : d < m := by rw [← hd]; exact F.mod _
    have hdW : d < W256 := Nat.lt_trans hdm F.lt
    rw [hd] at hstep
    have e1 : (o + o) % W256 = o + o := Nat.mod_eq_of_lt (by omega)
    have e1W : o + o < W256 := by omega
    have ham := F.mod a
    have e2 : (d + a % m) % W256 = d + a % m := Nat.mod_eq_of_lt (by omega)
    have e2W : d + a % m < W256 := by omega
    simp only [SX, simprocAttr, TYX, cellsE, foldE, foldN, cellsN, b_EN, k32, kA, kB, ud3, it63, Int.toNat_natCast, Down.hz, Down.ge, Down.quo hi, Down.rem, Down.conv, Down.j0, Down.j4 hi, Down.j hi, getLX _ _ hj, bitLX, Down.next hi]
    refine CallVC.intro (c_plus o o hoW hoW) ⟨rfl, rfl, trivial⟩ rfl rfl ?_
    rw [e1]
    simp only [SX, simprocAttr, TYX, cellsE, foldE, foldN, cellsN, b_EN, k32, kA, kB, ud3, it63, Int.toNat_natCast]
    refine CallVC.intro (c_below (o + o) m e1W F.lt) ⟨rfl, rfl, trivial⟩ rfl rfl ?_
    simp only [SX, simprocAttr, TYX, cellsE, foldE, foldN, cellsN, b_EN, k32, kA, kB, ud3, it63, Int.toNat_natCast]
    refine cond_split (fun h0 => ?_) (fun h0 => ?_)
    · have h0 : m ≤ o + o := by simpa using h0
      simp only [SX, simprocAttr, TYX, cellsE, foldE, foldN, cellsN, b_EN, k32, kA, kB, ud3, it63, Int.toNat_natCast]
      refine CallVC.intro (c_minus (o + o) m e1W F.lt) ⟨rfl, rfl, trivial⟩ rfl rfl ?_
      rw [sub_of e1W h0, show o + o - m = d by rw [← hd, Nat.mod_eq_sub_mod h0, Nat.mod_eq_of_lt (by omega)]]
      simp only [SX, simprocAttr, TYX, cellsE, foldE, foldN, cellsN, b_EN, k32, kA, kB, ud3, it63, Int.toNat_natCast, Down.hz, Down.ge, Down.quo hi, Down.rem, Down.conv, Down.j0, Down.j4 hi, Down.j hi, getLX _ _ hj, bitLX, Down.next hi]
      refine cond_split (fun hbt => ?_) (fun hbt => ?_)
      · have hbt : b % m / 2 ^ i % 2 = 1 := by simpa using hbt
        rw [hbt, Nat.one_mul] at hstep
        simp only [SX, simprocAttr, TYX, cellsE, foldE, foldN, cellsN, b_EN, k32, kA, kB, ud3, it63, Int.toNat_natCast]
        refine CallVC.intro (c_plus d (a % m) hdW (F.mod2 a)) ⟨rfl, rfl, trivial⟩ rfl rfl ?_
        rw [e2]
        simp only [SX, simprocAttr, TYX, cellsE, foldE, foldN, cellsN, b_EN, k32, kA, kB, ud3, it63, Int.toNat_natCast]
        refine CallVC.intro (c_below (d + a % m) m e2W F.lt) ⟨rfl, rfl, trivial⟩ rfl rfl ?_
        simp only [SX, simprocAttr, TYX, cellsE, foldE, foldN, cellsN, b_EN, k32, kA, kB, ud3, it63, Int.toNat_natCast]
        refine cond_split (fun h0 => ?_) (fun h0 => ?_)
        · have h0 : m ≤ d + a % m := by simpa using h0
          simp only [SX, simprocAttr, TYX, cellsE, foldE, foldN, cellsN, b_EN, k32, kA, kB, ud3, it63, Int.toNat_natCast]
          refine CallVC.intro (c_minus (d + a % m) m e2W F.lt) ⟨rfl, rfl, trivial⟩ rfl rfl ?_
          rw [sub_of e2W h0, show d + a % m - m = (d + a % m) % m by rw [Nat.mod_eq_sub_mod (a := d + a % m) h0, Nat.mod_eq_of_lt (a := d + a % m - m) (by omega)]]
          simp only [SX, simprocAttr, TYX, cellsE, foldE, foldN, cellsN, b_EN, k32, kA, kB, ud3, it63, Int.toNat_natCast, Down.next hi]
          refine ⟨(i, (d + a % m) % m), ⟨Nat.le_of_lt hi, F.mod _, hstep⟩, (show i < i + 1 by omega), ?_⟩
          refine (St.le_of id (by simp [Tle, AVle, A0le, Mem.get]) (by simp [Mle, Ele, Mem.get]) (by simp) (by simp))
        · have h0 : d + a % m < m := by simpa using h0
          simp only [SX, simprocAttr, TYX, cellsE, foldE, foldN, cellsN, b_EN, k32, kA, kB, ud3, it63, Int.toNat_natCast, Down.next hi]
          refine ⟨(i, d + a % m), ⟨Nat.le_of_lt hi, h0, by rw [Nat.mod_eq_of_lt h0] at hstep; exact hstep⟩, (show i < i + 1 by omega), ?_⟩
          refine (St.le_of id (by simp [Tle, AVle, A0le, Mem.get]) (by simp [Mle, Ele, Mem.get]) (by simp) (by simp))
      · have hbt : b % m / 2 ^ i % 2 = 0 := by
          have : ¬ b % m / 2 ^ i % 2 = 1 := by simpa using hbt
          omega
        rw [hbt, Nat.zero_mul, Nat.add_zero, Nat.mod_eq_of_lt hdm] at hstep
        simp only [SX, simprocAttr, TYX, cellsE, foldE, foldN, cellsN, b_EN, k32, kA, kB, ud3, it63, Int.toNat_natCast, Down.next hi]
        refine ⟨(i, d), ⟨Nat.le_of_lt hi, hdm, hstep⟩, (show i < i + 1 by omega), ?_⟩
        refine (St.le_of id (by simp [Tle, AVle, A0le, Mem.get]) (by simp [Mle, Ele, Mem.get]) (by simp) (by simp))
    · have h0 : o + o < m := by simpa using h0
      rw [show o + o = d by rw [← hd, Nat.mod_eq_of_lt h0]]
      simp only [SX, simprocAttr, TYX, cellsE, foldE, foldN, cellsN, b_EN, k32, kA, kB, ud3, it63, Int.toNat_natCast, Down.hz, Down.ge, Down.quo hi, Down.rem, Down.conv, Down.j0, Down.j4 hi, Down.j hi, getLX _ _ hj, bitLX, Down.next hi]
      refine cond_split (fun hbt => ?_) (fun hbt => ?_)
      · have hbt : b % m / 2 ^ i % 2 = 1 := by simpa using hbt
        rw [hbt, Nat.one_mul] at hstep
        simp only [SX, simprocAttr, TYX, cellsE, foldE, foldN, cellsN, b_EN, k32, kA, kB, ud3, it63, Int.toNat_natCast]
        refine CallVC.intro (c_plus d (a % m) hdW (F.mod2 a)) ⟨rfl, rfl, trivial⟩ rfl rfl ?_
        rw [e2]
        simp only [SX, simprocAttr, TYX, cellsE, foldE, foldN, cellsN, b_EN, k32, kA, kB, ud3, it63, Int.toNat_natCast]
        refine CallVC.intro (c_below (d + a % m) m e2W F.lt) ⟨rfl, rfl, trivial⟩ rfl rfl ?_
        simp only [SX, simprocAttr, TYX, cellsE, foldE, foldN, cellsN, b_EN, k32, kA, kB, ud3, it63, Int.toNat_natCast]
        refine cond_split (fun h0 => ?_) (fun h0 => ?_)
        · have h0 : m ≤ d + a % m := by simpa using h0
          simp only [SX, simprocAttr, TYX, cellsE, foldE, foldN, cellsN, b_EN, k32, kA, kB, ud3, it63, Int.toNat_natCast]
          refine CallVC.intro (c_minus (d + a % m) m e2W F.lt) ⟨rfl, rfl, trivial⟩ rfl rfl ?_
          rw [sub_of e2W h0, show d + a % m - m = (d + a % m) % m by rw [Nat.mod_eq_sub_mod (a := d + a % m) h0, Nat.mod_eq_of_lt (a := d + a % m - m) (by omega)]]
          simp only [SX, simprocAttr, TYX, cellsE, foldE, foldN, cellsN, b_EN, k32, kA, kB, ud3, it63, Int.toNat_natCast, Down.next hi]
          refine ⟨(i, (d + a % m) % m), ⟨Nat.le_of_lt hi, F.mod _, hstep⟩, (show i < i + 1 by omega), ?_⟩
          refine (St.le_of id (by simp [Tle, AVle, A0le, Mem.get]) (by simp [Mle, Ele, Mem.get]) (by simp) (by simp))
        · have h0 : d + a % m < m := by simpa using h0
          simp only [SX, simprocAttr, TYX, cellsE, foldE, foldN, cellsN, b_EN, k32, kA, kB, ud3, it63, Int.toNat_natCast, Down.next hi]
          refine ⟨(i, d + a % m), ⟨Nat.le_of_lt hi, h0, by rw [Nat.mod_eq_of_lt h0] at hstep; exact hstep⟩, (show i < i + 1 by omega), ?_⟩
          refine (St.le_of id (by simp [Tle, AVle, A0le, Mem.get]) (by simp [Mle, Ele, Mem.get]) (by simp) (by simp))
      · have hbt : b % m / 2 ^ i % 2 = 0 := by
          have : ¬ b % m / 2 ^ i % 2 = 1 := by simpa using hbt
          omega
        rw [hbt, Nat.zero_mul, Nat.add_zero, Nat.mod_eq_of_lt hdm] at hstep
        simp only [SX, simprocAttr, TYX, cellsE, foldE, foldN, cellsN, b_EN, k32, kA, kB, ud3, it63, Int.toNat_natCast, Down.next hi]
        refine ⟨(i, d), ⟨Nat.le_of_lt hi, hdm, hstep⟩, (show i < i + 1 by omega), ?_⟩
        refine (St.le_of id (by simp [Tle, AVle, A0le, Mem.get]) (by simp [Mle, Ele, Mem.get]) (by simp) (by simp))
  ·
    refine contract_of (N := _) (vars := _) (c := bodyOf Try.f14) Try.func14 (body_eq rfl) rfl rfl (by rfl) mixed _ _ trivial 1000 ?_
    simp only [bodyOf, Try.f14, Option.getD_some, argA, argE, List.length_cons, List.length_nil, Nat.reduceAdd, Nat.reduceSub, List.replicate, List.cons_append, List.nil_append]
    simp only [SX, simprocAttr, TYX, cellsE, foldE, foldN, cellsN, b_EN, k32, kA, kB, ud3, it63, Int.toNat_natCast]
    refine CallVC.intro F.modulus ⟨rfl, trivial⟩ rfl rfl ?_
    simp only [SX, simprocAttr, TYX, cellsE, foldE, foldN, cellsN, b_EN, k32, kA, kB, ud3, it63, Int.toNat_natCast]
    refine CallVC.intro (F.of a ha) ⟨rfl, rfl, trivial⟩ rfl rfl ?_
    simp only [SX, simprocAttr, TYX, cellsE, foldE, foldN, cellsN, b_EN, k32, kA, kB, ud3, it63, Int.toNat_natCast]
    refine CallVC.intro (F.of b hb) ⟨rfl, rfl, trivial⟩ rfl rfl ?_
    simp only [SX, simprocAttr, TYX, cellsE, foldE, foldN, cellsN, b_EN, k32, kA, kB, ud3, it63, Int.toNat_natCast]
    refine X0 ?_
    simp only [SX, simprocAttr, TYX, cellsE, foldE, foldN, cellsN, b_EN, k32, kA, kB, ud3, it63, Int.toNat_natCast]
    have hbm : b % m < 2 ^ 256 := F.mod2 b
    refine loop_inv mixed (by trivial) (γ := Nat × Nat) (fun g => ⟨[.o (.v (.int .i64 3)), .o .any, .o .any, .o .any, .o (.p 3 0), .o (.p 7 0), .o (.p 11 0), .o (.p 59 0), .o .any, .o (.p 115 0), .o (.v (.int .i64 ((g.1 : Int) - 1))), .o .any, .o .any, .o .any, .o .any, .o .any, .o .any, .o .any, .o .any, .o .any, .o .any, .o .any, .o .any, .o .any, .o .any, .o .any, .o .any, .o .any, .o .any, .o .any, .o .any, .o .any, .o .any, .o .any, .o .any, .o .any, .o .any, .o .any, .o .any, .o .any, .o .any, .o .any, .o .any, .o .any, .o .any, .o .any, .o .any, .o .any, .o .any, .o .any, .o .any, .o .any, .o .any, .o .any, .o .any, .o .any, .o .any, .o .any, .o .any, .o .any, .o .any, .o .any, .o .any, .o .any, .o .any, .o .any, .o .any, .o .any, .o .any, .o .any, .o .any, .o .any, .o .any, .o .any, .o .any, .o .any, .o .any, .o .any, .o .any, .o .any],
        [(115, .box [u64 (L0 g.2), u64 (L1 g.2), u64 (L2 g.2), u64 (L3 g.2)]), (59, .box [u64 (L0 m), u64 (L1 m), u64 (L2 m), u64 (L3 m)]), (11, .box [u64 0, u64 0, u64 0, u64 0]),
          (7, .box [u64 (L0 (b % m)), u64 (L1 (b % m)), u64 (L2 (b % m)), u64 (L3 (b % m))]), (3, .box [u64 (L0 (a % m)), u64 (L1 (a % m)), u64 (L2 (a % m)), u64 (L3 (a % m))])], 1000⟩)
        (fun g => g.1 ≤ 256 ∧ g.2 < m ∧ g.2 = a % m * (b % m / 2 ^ g.1) % m) (fun g => g.1) (256, 0) ⟨Nat.le_refl _, by have := F.one; omega, by rw [Nat.div_eq_of_lt hbm, Nat.mul_zero, Nat.zero_mod]⟩ (St.le_of id (by simp [Tle, AVle, A0le, Mem.get]) (by simp [Mle, Ele, Mem.get]) (by simp) (by simp)) 1000 ?_
    rintro ⟨n, o⟩ ⟨hn, ho, hinv⟩
    simp only at hn ho hinv
    rcases n with _ | i
    · rw [Nat.pow_zero, Nat.div_one, ← Nat.mul_mod] at hinv
      simp only [SX, simprocAttr, TYX, cellsE, foldE, foldN, cellsN, b_EN, k32, kA, kB, ud3, it63, Int.toNat_natCast, Down.end0]
      rw [hinv]
    have hi : i < 256 := by omega
    have hj : i / 64 < 4 := by omega
    have hoW : o < W256 := Nat.lt_trans ho F.lt
    have hhalf := F.half
    have hstep := mul_step hinv
    obtain ⟨d, hd⟩ : ∃ d, (o + o) % m = d := ⟨_, rfl⟩
    have hdm : d < m := by rw [← hd]; exact F.mod _
    have hdW : d < W256 := Nat.lt_trans hdm F.lt
    rw [hd] at hstep
    have e1 : (o + o) % W256 = o + o := Nat.mod_eq_of_lt (by omega)
    have e1W : o + o < W256 := by omega
    have ham := F.mod a
    have e2 : (d + a % m) % W256 = d + a % m := Nat.mod_eq_of_lt (by omega)
    have e2W : d + a % m < W256 := by omega
    simp only [SX, simprocAttr, TYX, cellsE, foldE, foldN, cellsN, b_EN, k32, kA, kB, ud3, it63, Int.toNat_natCast, Down.hz, Down.ge, Down.quo hi, Down.rem, Down.conv, Down.j0, Down.j4 hi, Down.j hi, getLX _ _ hj, bitLX, Down.next hi]
    refine CallVC.intro (c_plus o o hoW hoW) ⟨rfl, rfl, trivial⟩ rfl rfl ?_
    rw [e1]
    simp only [SX, simprocAttr, TYX, cellsE, foldE, foldN, cellsN, b_EN, k32, kA, kB, ud3, it63, Int.toNat_natCast]
    refine CallVC.intro (c_below (o + o) m e1W F.lt) ⟨rfl, rfl, trivial⟩ rfl rfl ?_
    simp only [SX, simprocAttr, TYX, cellsE, foldE, foldN, cellsN, b_EN, k32, kA, kB, ud3, it63, Int.toNat_natCast]
    refine cond_split (fun h0 => ?_) (fun h0 => ?_)
    · have h0 : m ≤ o + o := by simpa using h0
      simp only [SX, simprocAttr, TYX, cellsE, foldE, foldN, cellsN, b_EN, k32, kA, kB, ud3, it63, Int.toNat_natCast]
      refine CallVC.intro (c_minus (o + o) m e1W F.lt) ⟨rfl, rfl, trivial⟩ rfl rfl ?_
      rw [sub_of e1W h0, show o + o - m = d by rw [← hd, Nat.mod_eq_sub_mod h0, Nat.mod_eq_of_lt (by omega)]]
      simp only [SX, simprocAttr, TYX, cellsE, foldE, foldN, cellsN, b_EN, k32, kA, kB, ud3, it63, Int.toNat_natCast, Down.hz, Down.ge, Down.quo hi, Down.rem, Down.conv, Down.j0, Down.j4 hi, Down.j hi, getLX _ _ hj, bitLX, Down.next hi]
      refine cond_split (fun hbt => ?_) (fun hbt => ?_)
      · have hbt : b % m / 2 ^ i % 2 = 1 := by simpa using hbt
        rw [hbt, Nat.one_mul] at hstep
        simp only [SX, simprocAttr, TYX, cellsE, foldE, foldN, cellsN, b_EN, k32, kA, kB, ud3, it63, Int.toNat_natCast]
        refine CallVC.intro (c_plus d (a % m) hdW (F.mod2 a)) ⟨rfl, rfl, trivial⟩ rfl rfl ?_
        rw [e2]
        simp only [SX, simprocAttr, TYX, cellsE, foldE, foldN, cellsN, b_EN, k32, kA, kB, ud3, it63, Int.toNat_natCast]
        refine CallVC.intro (c_below (d + a % m) m e2W F.lt) ⟨rfl, rfl, trivial⟩ rfl rfl ?_
        simp only [SX, simprocAttr, TYX, cellsE, foldE, foldN, cellsN, b_EN, k32, kA, kB, ud3, it63, Int.toNat_natCast]
        refine cond_split (fun h0 => ?_) (fun h0 => ?_)
        · have h0 : m ≤ d + a % m := by simpa using h0
          simp only [SX, simprocAttr, TYX, cellsE, foldE, foldN, cellsN, b_EN, k32, kA, kB, ud3, it63, Int.toNat_natCast]
          refine CallVC.intro (c_minus (d + a % m) m e2W F.lt) ⟨rfl, rfl, trivial⟩ rfl rfl ?_
          rw [sub_of e2W h0, show d + a % m - m = (d + a % m) % m by rw [Nat.mod_eq_sub_mod (a := d + a % m) h0, Nat.mod_eq_of_lt (a := d + a % m - m) (by omega)]]
          simp only [SX, simprocAttr, TYX, cellsE, foldE, foldN, cellsN, b_EN, k32, kA, kB, ud3, it63, Int.toNat_natCast, Down.next hi]
          refine ⟨(i, (d + a % m) % m), ⟨Nat.le_of_lt hi, F.mod _, hstep⟩, (show i < i + 1 by omega), ?_⟩
          refine (St.le_of id (by simp [Tle, AVle, A0le, Mem.get]) (by simp [Mle, Ele, Mem.get]) (by simp) (by simp))
        · have h0 : d + a % m < m := by simpa using h0
          simp only [SX, simprocAttr, TYX, cellsE, foldE, foldN, cellsN, b_EN, k32, kA, kB, ud3, it63, Int.toNat_natCast, Down.next hi]
          refine ⟨(i, d + a % m), ⟨Nat.le_of_lt hi, h0, by rw [Nat.mod_eq_of_lt h0] at hstep; exact hstep⟩, (show i < i + 1 by omega), ?_⟩
          refine (St.le_of id (by simp [Tle, AVle, A0le, Mem.get]) (by simp [Mle, Ele, Mem.get]) (by simp) (by simp))
      · have hbt : b % m / 2 ^ i % 2 = 0 := by
          have : ¬ b % m / 2 ^ i % 2 = 1 := by simpa using hbt
          omega
        rw [hbt, Nat.zero_mul, Nat.add_zero, Nat.mod_eq_of_lt hdm] at hstep
        simp only [SX, simprocAttr, TYX, cellsE, foldE, foldN, cellsN, b_EN, k32, kA, kB, ud3, it63, Int.toNat_natCast, Down.next hi]
        refine ⟨(i, d), ⟨Nat.le_of_lt hi, hdm, hstep⟩, (show i < i + 1 by omega), ?_⟩
        refine (St.le_of id (by simp [Tle, AVle, A0le, Mem.get]) (by simp [Mle, Ele, Mem.get]) (by simp) (by simp))
    · have h0 : o + o < m := by simpa using h0
      rw [show o + o = d by rw [← hd, Nat.mod_eq_of_lt h0]]
      simp only [SX, simprocAttr, TYX, cellsE, foldE, foldN, cellsN, b_EN, k32, kA, kB, ud3, it63, Int.toNat_natCast, Down.hz, Down.ge, Down.quo hi, Down.rem, Down.conv, Down.j0, Down.j4 hi, Down.j hi, getLX _ _ hj, bitLX, Down.next hi]
      refine cond_split (fun hbt => ?_) (fun hbt => ?_)
      · have hbt : b % m / 2 ^ i % 2 = 1 := by simpa using hbt
        rw [hbt, Nat.one_mul] at hstep
        simp only [SX, simprocAttr, TYX, cellsE, foldE, foldN, cellsN, b_EN, k32, kA, kB, ud3, it63, Int.toNat_natCast]
        refine CallVC.intro (c_plus d (a % m) hdW (F.mod2 a)) ⟨rfl, rfl, trivial⟩ rfl rfl ?_
        rw [e2]
        simp only [SX, simprocAttr, TYX, cellsE, foldE, foldN, cellsN, b_EN, k32, kA, kB, ud3, it63, Int.toNat_natCast]
        refine CallVC.intro (c_below (d + a % m) m e2W F.lt) ⟨rfl, rfl, trivial⟩ rfl rfl ?_
        simp only [SX, simprocAttr, TYX, cellsE, foldE, foldN, cellsN, b_EN, k32, kA, kB, ud3, it63, Int.toNat_natCast]
        refine cond_split (fun h0 => ?_) (fun h0 => ?_)
        · have h0 : m ≤ d + a % m := by simpa using h0
          simp only [SX, simprocAttr, TYX, cellsE, foldE, foldN, cellsN, b_EN, k32, kA, kB, ud3, it63, Int.toNat_natCast]
          refine CallVC.intro (c_minus (d + a % m) m e2W F.lt) ⟨rfl, rfl, trivial⟩ rfl rfl ?_
          rw [sub_of e2W h0, show d + a % m - m = (d + a % m) % m by rw [Nat.mod_eq_sub_mod (a := d + a % m) h0, Nat.mod_eq_of_lt (a := d + a % m - m) (by omega)]]
          simp only [SX, simprocAttr, TYX, cellsE, foldE, foldN, cellsN, b_EN, k32, kA, kB, ud3, it63, Int.toNat_natCast, Down.next hi]
          refine ⟨(i, (d + a % m) % m), ⟨Nat.le_of_lt hi, F.mod _, hstep⟩, (show i < i + 1 by omega), ?_⟩
          refine (St.le_of id (by simp [Tle, AVle, A0le, Mem.get]) (by simp [Mle, Ele, Mem.get]) (by simp) (by simp))
        · have h0 : d + a % m < m := by simpa using h0
          simp only [SX, simprocAttr, TYX, cellsE, foldE, foldN, cellsN, b_EN, k32, kA, kB, ud3, it63, Int.toNat_natCast, Down.next hi]
          refine ⟨(i, d + a % m), ⟨Nat.le_of_lt hi, h0, by rw [Nat.mod_eq_of_lt h0] at hstep; exact hstep⟩, (show i < i + 1 by omega), ?_⟩
          refine (St.le_of id (by simp [Tle, AVle, A0le, Mem.get]) (by simp [Mle, Ele, Mem.get]) (by simp) (by simp))
      · have hbt : b % m / 2 ^ i % 2 = 0 := by
          have : ¬ b % m / 2 ^ i % 2 = 1 := by simpa using hbt
          omega
        rw [hbt, Nat.zero_mul, Nat.add_zero, Nat.mod_eq_of_lt hdm] at hstep
        simp only [SX, simprocAttr, TYX, cellsE, foldE, foldN, cellsN, b_EN, k32, kA, kB, ud3, it63, Int.toNat_natCast, Down.next hi]
        refine ⟨(i, d), ⟨Nat.le_of_lt hi, hdm, hstep⟩, (show i < i + 1 by omega), ?_⟩
        refine (St.le_of id (by simp [Tle, AVle, A0le, Mem.get]) (by simp [Mle, Ele, Mem.get]) (by simp) (by simp))
end
end Go.Sx
