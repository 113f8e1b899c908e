/-
  Walks of the references: Exp. No conditions.
-/
import Derived.Test.YtmgheellmllfpaaFldN
namespace Go.Sx
open Go.Proofs
-- TY: TYX, cellsE, foldE, foldN, cellsN, b_EN, k32, kA, kB, ud3, it63, Int.toNat_natCast
set_option maxRecDepth 100000
set_option linter.unusedSimpArgs false
set_option pp.deepTerms false
set_option pp.deepTerms.threshold 3
theorem top_step {e i : Nat} (h : e / 2 ^ (i + 1) = 0) (hb : e / 2 ^ i % 2 = 0) : e / 2 ^ i = 0 := by
  rw [Nat.pow_succ, ← Nat.div_div_eq_div_mul] at h
  omega
theorem sq_step0 {m a e i o : Nat} (ho : o = a ^ (e / 2 ^ (i + 1)) % m) (hb : e / 2 ^ i % 2 = 0) : o * o % m = a ^ (e / 2 ^ i) % m := by
  have h : e / 2 ^ i = 2 * (e / 2 ^ (i + 1)) := by
    rw [Nat.pow_succ, ← Nat.div_div_eq_div_mul]
    omega
  rw [h, ho, ← Nat.mul_mod, ← Nat.pow_add, Nat.two_mul]
theorem sq_step1 {m a e i o : Nat} (ho : o = a ^ (e / 2 ^ (i + 1)) % m) (hb : e / 2 ^ i % 2 = 1) : o * o % m * a % m = a ^ (e / 2 ^ i) % m := by
  have h : e / 2 ^ i = 2 * (e / 2 ^ (i + 1)) + 1 := by
    rw [Nat.pow_succ, ← Nat.div_div_eq_div_mul]
    omega
  have e1 : ∀ x y : Nat, (x % m * y) % m = (x * y) % m := fun x y => by rw [Nat.mul_mod, Nat.mod_mod, ← Nat.mul_mod]
  have e2 : o * o % m * a % m = (o * o * a) % m := e1 (o * o) a
  rw [e2, h, Nat.pow_succ, Nat.two_mul, Nat.pow_add, ho]
  generalize a ^ (e / 2 ^ (i + 1)) = x
  rw [Nat.mul_assoc, e1, Nat.mul_left_comm, e1, ← Nat.mul_assoc]
section
variable {s : Int} {m : Nat}
theorem r_Exp (F : RS s m) (a e : Nat) (ha : a < W256) (he : e < W256) : Contract Try.prog 16 [.val (.int .i64 s), .val (EN a), .val (EN e)] [.val (EN (a ^ e % m))] := by
  have he' : e < 2 ^ 256 := he
  have h1m : 1 % m = 1 := Nat.mod_eq_of_lt F.one
  refine contract_of (N := _) (vars := _) (c := bodyOf Try.f16) Try.func16 (body_eq rfl) rfl rfl (by rfl) mixed _ _ trivial 1000 ?_
  simp only [bodyOf, Try.f16, Option.getD_some, argA, argE, List.length_cons, List.length_nil, Nat.reduceAdd, Nat.reduceSub, List.replicate, List.cons_append, List.nil_append]
  simp only [SX, simprocAttr, TYX, cellsE, foldE, foldN, cellsN, b_EN, k32, kA, kB, ud3, it63, Int.toNat_natCast]
  refine X1 1 (by rfl) ?_
  rw [EN_small (by decide)]
  simp only [SX, simprocAttr, TYX, cellsE, foldE, foldN, cellsN, b_EN, k32, kA, kB, ud3, it63, Int.toNat_natCast]
  refine CallVC.intro (F.of 1 (by decide)) ⟨rfl, rfl, trivial⟩ rfl rfl ?_
  rw [h1m]
  simp only [SX, simprocAttr, TYX, cellsE, foldE, foldN, cellsN, b_EN, k32, kA, kB, ud3, it63, Int.toNat_natCast]
  refine loop_inv mixed (by trivial) (γ := Nat) (fun n => ⟨[.o (.v (.int .i64 s)), .o .any, .o .any, .o .any, .o (.p 3 0), .o (.p 7 0), .o (.p 11 0), .o (.p 27 0), .o (.v (.int .i64 ((n : Int) - 1))), .o .any, .o .any, .o .any, .o .any, .o .any, .o .any, .o .any, .o .any, .o .any, .o .any, .o .any, .o .any, .o .any, .o .any, .o .any, .o .any, .o .any, .o .any, .o .any, .o .any, .o .any, .o .any, .o .any, .o .any, .o .any, .o .any, .o .any, .o .any, .o .any, .o .any, .o .any, .o .any, .o .any, .o .any, .o .any, .o .any, .o .any, .o .any, .o .any, .o .any, .o .any, .o .any, .o .any, .o .any], [(27, .box [u64 (L0 1), u64 (L1 1), u64 (L2 1), u64 (L3 1)]), (11, .box [u64 0, u64 0, u64 0, u64 0]), (7, .box [u64 (L0 e), u64 (L1 e), u64 (L2 e), u64 (L3 e)]), (3, .box [u64 (L0 a), u64 (L1 a), u64 (L2 a), u64 (L3 a)])], 1000⟩)
    (fun n => n ≤ 256 ∧ e / 2 ^ n = 0) (fun n => n) 256 ⟨Nat.le_refl _, Nat.div_eq_of_lt he'⟩ (St.le_of id (by simp [Tle, AVle, A0le, Mem.get]) (by simp [Mle, Ele, Mem.get]) (by simp) (by simp)) 1000 ?_
  rintro n ⟨hn, hz⟩
  rcases n with _ | i
  · simp only [SX, simprocAttr, TYX, cellsE, foldE, foldN, cellsN, b_EN, k32, kA, kB, ud3, it63, Int.toNat_natCast, Down.end0]
    refine loop_inv mixed (by trivial) (γ := Nat × Nat) (fun g => ⟨[.o (.v (.int .i64 s)), .o .any, .o .any, .o .any, .o (.p 3 0), .o (.p 7 0), .o (.p 11 0), .o (.p 27 0), .o .any, .o (.v (.int .i64 ((g.1 : Int) - 1))), .o .any, .o .any, .o .any, .o .any, .o .any, .o .any, .o .any, .o .any, .o .any, .o .any, .o .any, .o .any, .o .any, .o .any, .o .any, .o .any, .o .any, .o .any, .o .any, .o .any, .o .any, .o .any, .o .any, .o .any, .o .any, .o .any, .o .any, .o .any, .o .any, .o .any, .o .any, .o .any, .o .any, .o .any, .o .any, .o .any, .o .any, .o .any, .o .any, .o .any, .o .any, .o .any, .o .any], [(27, .box [u64 (L0 g.2), u64 (L1 g.2), u64 (L2 g.2), u64 (L3 g.2)]), (11, .box [u64 0, u64 0, u64 0, u64 0]), (7, .box [u64 (L0 e), u64 (L1 e), u64 (L2 e), u64 (L3 e)]), (3, .box [u64 (L0 a), u64 (L1 a), u64 (L2 a), u64 (L3 a)])], 1000⟩)
      (fun g => g.1 ≤ 256 ∧ g.2 < m ∧ g.2 = a ^ (e / 2 ^ g.1) % m) (fun g => g.1) (0, 1) ⟨by omega, F.one, by simp only; rw [hz, Nat.pow_zero, h1m]⟩ (St.le_of id (by simp [Tle, AVle, A0le, Mem.get]) (by simp [Mle, Ele, Mem.get]) (by simp) (by simp)) 1000 ?_
    rintro ⟨n, o⟩ ⟨hn, ho, hinv⟩
    simp only at hn ho hinv
    rcases n with _ | i
    · rw [Nat.pow_zero, Nat.div_one] at hinv
      simp only [SX, simprocAttr, TYX, cellsE, foldE, foldN, cellsN, b_EN, k32, kA, kB, ud3, it63, Int.toNat_natCast, Down.end0]
      rw [hinv]
    have hi : i < 256 := by omega
    have hj : i / 64 < 4 := by omega
    have hoW : o < W256 := Nat.lt_trans ho F.lt
    simp only [SX, simprocAttr, TYX, cellsE, foldE, foldN, cellsN, b_EN, k32, kA, kB, ud3, it63, Int.toNat_natCast, Down.hz, Down.ge, Down.quo hi, Down.rem, Down.conv, Down.j0, Down.j4 hi, Down.j hi, getLX _ _ hj, bitLX, Down.next hi]
    refine CallVC.intro (r_Mul F o o hoW hoW) ⟨rfl, rfl, rfl, trivial⟩ rfl rfl ?_
    simp only [SX, simprocAttr, TYX, cellsE, foldE, foldN, cellsN, b_EN, k32, kA, kB, ud3, it63, Int.toNat_natCast, Down.hz, Down.ge, Down.quo hi, Down.rem, Down.conv, Down.j0, Down.j4 hi, Down.j hi, getLX _ _ hj, bitLX, Down.next hi]
    refine cond_split (fun hbt => ?_) (fun hbt => ?_)
    · have hbt : e / 2 ^ i % 2 = 1 := by simpa using hbt
      simp only [SX, simprocAttr, TYX, cellsE, foldE, foldN, cellsN, b_EN, k32, kA, kB, ud3, it63, Int.toNat_natCast]
      refine CallVC.intro (r_Mul F (o * o % m) a (F.mod2 _) ha) ⟨rfl, rfl, rfl, trivial⟩ rfl rfl ?_
      simp only [SX, simprocAttr, TYX, cellsE, foldE, foldN, cellsN, b_EN, k32, kA, kB, ud3, it63, Int.toNat_natCast, Down.next hi]
      refine ⟨(i, o * o % m * a % m), ⟨Nat.le_of_lt hi, F.mod _, sq_step1 hinv hbt⟩, (show i < i + 1 by omega), ?_⟩
      refine (St.le_of id (by simp [Tle, AVle, A0le, Mem.get]) (by simp [Mle, Ele, Mem.get]) (by simp) (by simp))
    · have hbt : e / 2 ^ i % 2 = 0 := by
        have : ¬ e / 2 ^ i % 2 = 1 := by simpa using hbt
        omega
      simp only [SX, simprocAttr, TYX, cellsE, foldE, foldN, cellsN, b_EN, k32, kA, kB, ud3, it63, Int.toNat_natCast, Down.next hi]
      refine ⟨(i, o * o % m), ⟨Nat.le_of_lt hi, F.mod _, sq_step0 hinv hbt⟩, (show i < i + 1 by omega), ?_⟩
      refine (St.le_of id (by simp [Tle, AVle, A0le, Mem.get]) (by simp [Mle, Ele, Mem.get]) (by simp) (by simp))
  have hi : i < 256 := by omega
  have hj : i / 64 < 4 := by omega
  simp only [SX, simprocAttr, TYX, cellsE, foldE, foldN, cellsN, b_EN, k32, kA, kB, ud3, it63, Int.toNat_natCast, Down.hz, Down.ge, Down.quo hi, Down.rem, Down.conv, Down.j0, Down.j4 hi, Down.j hi, getLX _ _ hj, bitLX, Down.next hi]
  refine cond_split (fun hbt => ?_) (fun hbt => ?_)
  · have hbt : e / 2 ^ i % 2 = 0 := by simpa using hbt
    simp only [SX, simprocAttr, TYX, cellsE, foldE, foldN, cellsN, b_EN, k32, kA, kB, ud3, it63, Int.toNat_natCast, Down.next hi]
    refine ⟨i, ⟨Nat.le_of_lt hi, top_step hz hbt⟩, (show i < i + 1 by omega), ?_⟩
    refine (St.le_of id (by simp [Tle, AVle, A0le, Mem.get]) (by simp [Mle, Ele, Mem.get]) (by simp) (by simp))
  · clear hi hj
    simp only [SX, simprocAttr, TYX, cellsE, foldE, foldN, cellsN, b_EN, k32, kA, kB, ud3, it63, Int.toNat_natCast]
    refine loop_inv mixed (by trivial) (γ := Nat × Nat) (fun g => ⟨[.o (.v (.int .i64 s)), .o .any, .o .any, .o .any, .o (.p 3 0), .o (.p 7 0), .o (.p 11 0), .o (.p 27 0), .o .any, .o (.v (.int .i64 ((g.1 : Int) - 1))), .o .any, .o .any, .o .any, .o .any, .o .any, .o .any, .o .any, .o .any, .o .any, .o .any, .o .any, .o .any, .o .any, .o .any, .o .any, .o .any, .o .any, .o .any, .o .any, .o .any, .o .any, .o .any, .o .any, .o .any, .o .any, .o .any, .o .any, .o .any, .o .any, .o .any, .o .any, .o .any, .o .any, .o .any, .o .any, .o .any, .o .any, .o .any, .o .any, .o .any, .o .any, .o .any, .o .any], [(27, .box [u64 (L0 g.2), u64 (L1 g.2), u64 (L2 g.2), u64 (L3 g.2)]), (11, .box [u64 0, u64 0, u64 0, u64 0]), (7, .box [u64 (L0 e), u64 (L1 e), u64 (L2 e), u64 (L3 e)]), (3, .box [u64 (L0 a), u64 (L1 a), u64 (L2 a), u64 (L3 a)])], 1000⟩)
      (fun g => g.1 ≤ 256 ∧ g.2 < m ∧ g.2 = a ^ (e / 2 ^ g.1) % m) (fun g => g.1) (i + 1, 1) ⟨by omega, F.one, by simp only; rw [hz, Nat.pow_zero, h1m]⟩ (St.le_of id (by simp [Tle, AVle, A0le, Mem.get]) (by simp [Mle, Ele, Mem.get]) (by simp) (by simp)) 1000 ?_
    rintro ⟨n, o⟩ ⟨hn, ho, hinv⟩
    simp only at hn ho hinv
    rcases n with _ | i
    · rw [Nat.pow_zero, Nat.div_one] at hinv
      simp only [SX, simprocAttr, TYX, cellsE, foldE, foldN, cellsN, b_EN, k32, kA, kB, ud3, it63, Int.toNat_natCast, Down.end0]
      rw [hinv]
    have hi : i < 256 := by omega
    have hj : i / 64 < 4 := by omega
    have hoW : o < W256 := Nat.lt_trans ho F.lt
    simp only [SX, simprocAttr, TYX, cellsE, foldE, foldN, cellsN, b_EN, k32, kA, kB, ud3, it63, Int.toNat_natCast, Down.hz, Down.ge, Down.quo hi, Down.rem, Down.conv, Down.j0, Down.j4 hi, Down.j hi, getLX _ _ hj, bitLX, Down.next hi]
    refine CallVC.intro (r_Mul F o o hoW hoW) ⟨rfl, rfl, rfl, trivial⟩ rfl rfl ?_
    simp only [SX, simprocAttr, TYX, cellsE, foldE, foldN, cellsN, b_EN, k32, kA, kB, ud3, it63, Int.toNat_natCast, Down.hz, Down.ge, Down.quo hi, Down.rem, Down.conv, Down.j0, Down.j4 hi, Down.j hi, getLX _ _ hj, bitLX, Down.next hi]
    refine cond_split (fun hbt => ?_) (fun hbt => ?_)
    · have hbt : e / 2 ^ i % 2 = 1 := by simpa using hbt
      simp only [SX, simprocAttr, TYX, cellsE, foldE, foldN, cellsN, b_EN, k32, kA, kB, ud3, it63, Int.toNat_natCast]
      refine CallVC.intro (r_Mul F (o * o % m) a (F.mod2 _) ha) ⟨rfl, rfl, rfl, trivial⟩ rfl rfl ?_
      simp only [SX, simprocAttr, TYX, cellsE, foldE, foldN, cellsN, b_EN, k32, kA, kB, ud3, it63, Int.toNat_natCast, Down.next hi]
      refine ⟨(i, o * o % m * a % m), ⟨Nat.le_of_lt hi, F.mod _, sq_step1 hinv hbt⟩, (show i < i + 1 by omega), ?_⟩
      refine (St.le_of id (by simp [Tle, AVle, A0le, Mem.get]) (by simp [Mle, Ele, Mem.get]) (by simp) (by simp))
    · have hbt : e / 2 ^ i % 2 = 0 := by
        have : ¬ e / 2 ^ i % 2 = 1 := by simpa using hbt
        omega
      simp only [SX, simprocAttr, TYX, cellsE, foldE, foldN, cellsN, b_EN, k32, kA, kB, ud3, it63, Int.toNat_natCast, Down.next hi]
      refine ⟨(i, o * o % m), ⟨Nat.le_of_lt hi, F.mod _, sq_step0 hinv hbt⟩, (show i < i + 1 by omega), ?_⟩
      refine (St.le_of id (by simp [Tle, AVle, A0le, Mem.get]) (by simp [Mle, Ele, Mem.get]) (by simp) (by simp))
theorem rn_Exp (F : RN s) (a e : Nat) (ha : a < W256) (he : e < W256) : Contract Try.prog 16 [.val (.int .i64 s), .val (EN a), .val (EN e)] [.val (EN 0)] := by
  have he' : e < 2 ^ 256 := he
  refine contract_of (N := _) (vars := _) (c := bodyOf Try.f16) Try.func16 (body_eq rfl) rfl rfl (by rfl) mixed _ _ trivial 1000 ?_
  simp only [bodyOf, Try.f16, Option.getD_some, argA, argE, List.length_cons, List.length_nil, Nat.reduceAdd, Nat.reduceSub, List.replicate, List.cons_append, List.nil_append]
  simp only [SX, simprocAttr, TYX, cellsE, foldE, foldN, cellsN, b_EN, k32, kA, kB, ud3, it63, Int.toNat_natCast]
  refine X1 1 (by rfl) ?_
  rw [EN_small (by decide)]
  simp only [SX, simprocAttr, TYX, cellsE, foldE, foldN, cellsN, b_EN, k32, kA, kB, ud3, it63, Int.toNat_natCast]
  refine CallVC.intro (F.of 1) ⟨rfl, rfl, trivial⟩ rfl rfl ?_
  simp only [SX, simprocAttr, TYX, cellsE, foldE, foldN, cellsN, b_EN, k32, kA, kB, ud3, it63, Int.toNat_natCast]
  refine loop_inv mixed (by trivial) (γ := Nat) (fun n => ⟨[.o (.v (.int .i64 s)), .o .any, .o .any, .o .any, .o (.p 3 0), .o (.p 7 0), .o (.p 11 0), .o (.p 27 0), .o (.v (.int .i64 ((n : Int) - 1))), .o .any, .o .any, .o .any, .o .any, .o .any, .o .any, .o .any, .o .any, .o .any, .o .any, .o .any, .o .any, .o .any, .o .any, .o .any, .o .any, .o .any, .o .any, .o .any, .o .any, .o .any, .o .any, .o .any, .o .any, .o .any, .o .any, .o .any, .o .any, .o .any, .o .any, .o .any, .o .any, .o .any, .o .any, .o .any, .o .any, .o .any, .o .any, .o .any, .o .any, .o .any, .o .any, .o .any, .o .any], [(27, .box [u64 (L0 0), u64 (L1 0), u64 (L2 0), u64 (L3 0)]), (11, .box [u64 0, u64 0, u64 0, u64 0]), (7, .box [u64 (L0 e), u64 (L1 e), u64 (L2 e), u64 (L3 e)]), (3, .box [u64 (L0 a), u64 (L1 a), u64 (L2 a), u64 (L3 a)])], 1000⟩)
    (fun n => n ≤ 256 ∧ e / 2 ^ n = 0) (fun n => n) 256 ⟨Nat.le_refl _, Nat.div_eq_of_lt he'⟩ (St.le_of id (by simp [Tle, AVle, A0le, Mem.get]) (by simp [Mle, Ele, Mem.get]) (by simp) (by simp)) 1000 ?_
  rintro n ⟨hn, hz⟩
  rcases n with _ | i
  · simp only [SX, simprocAttr, TYX, cellsE, foldE, foldN, cellsN, b_EN, k32, kA, kB, ud3, it63, Int.toNat_natCast, Down.end0]
    refine loop_inv mixed (by trivial) (γ := Nat × Nat) (fun g => ⟨[.o (.v (.int .i64 s)), .o .any, .o .any, .o .any, .o (.p 3 0), .o (.p 7 0), .o (.p 11 0), .o (.p 27 0), .o .any, .o (.v (.int .i64 ((g.1 : Int) - 1))), .o .any, .o .any, .o .any, .o .any, .o .any, .o .any, .o .any, .o .any, .o .any, .o .any, .o .any, .o .any, .o .any, .o .any, .o .any, .o .any, .o .any, .o .any, .o .any, .o .any, .o .any, .o .any, .o .any, .o .any, .o .any, .o .any, .o .any, .o .any, .o .any, .o .any, .o .any, .o .any, .o .any, .o .any, .o .any, .o .any, .o .any, .o .any, .o .any, .o .any, .o .any, .o .any, .o .any], [(27, .box [u64 (L0 g.2), u64 (L1 g.2), u64 (L2 g.2), u64 (L3 g.2)]), (11, .box [u64 0, u64 0, u64 0, u64 0]), (7, .box [u64 (L0 e), u64 (L1 e), u64 (L2 e), u64 (L3 e)]), (3, .box [u64 (L0 a), u64 (L1 a), u64 (L2 a), u64 (L3 a)])], 1000⟩)
      (fun g => g.1 ≤ 256 ∧ g.2 < 1 ∧ g.2 = 0) (fun g => g.1) (0, 0) ⟨by omega, Nat.zero_lt_one, rfl⟩ (St.le_of id (by simp [Tle, AVle, A0le, Mem.get]) (by simp [Mle, Ele, Mem.get]) (by simp) (by simp)) 1000 ?_
    rintro ⟨n, o⟩ ⟨hn, ho, hinv⟩
    simp only at hn ho hinv
    rcases n with _ | i
    · subst hinv
      simp only [SX, simprocAttr, TYX, cellsE, foldE, foldN, cellsN, b_EN, k32, kA, kB, ud3, it63, Int.toNat_natCast, Down.end0]
    have hi : i < 256 := by omega
    have hj : i / 64 < 4 := by omega
    have hoW : o < W256 := Nat.lt_trans ho (by decide : 1 < W256)
    simp only [SX, simprocAttr, TYX, cellsE, foldE, foldN, cellsN, b_EN, k32, kA, kB, ud3, it63, Int.toNat_natCast, Down.hz, Down.ge, Down.quo hi, Down.rem, Down.conv, Down.j0, Down.j4 hi, Down.j hi, getLX _ _ hj, bitLX, Down.next hi]
    refine CallVC.intro ((fun x y (_ : x < W256) (_ : y < W256) => rn_Mul F x y) o o hoW hoW) ⟨rfl, rfl, rfl, trivial⟩ rfl rfl ?_
    simp only [SX, simprocAttr, TYX, cellsE, foldE, foldN, cellsN, b_EN, k32, kA, kB, ud3, it63, Int.toNat_natCast, Down.hz, Down.ge, Down.quo hi, Down.rem, Down.conv, Down.j0, Down.j4 hi, Down.j hi, getLX _ _ hj, bitLX, Down.next hi]
    refine cond_split (fun hbt => ?_) (fun hbt => ?_)
    · have hbt : e / 2 ^ i % 2 = 1 := by simpa using hbt
      simp only [SX, simprocAttr, TYX, cellsE, foldE, foldN, cellsN, b_EN, k32, kA, kB, ud3, it63, Int.toNat_natCast]
      refine CallVC.intro ((fun x y (_ : x < W256) (_ : y < W256) => rn_Mul F x y) (0) a (by decide) ha) ⟨rfl, rfl, rfl, trivial⟩ rfl rfl ?_
      simp only [SX, simprocAttr, TYX, cellsE, foldE, foldN, cellsN, b_EN, k32, kA, kB, ud3, it63, Int.toNat_natCast, Down.next hi]
      refine ⟨(i, 0), ⟨Nat.le_of_lt hi, Nat.zero_lt_one, rfl⟩, (show i < i + 1 by omega), ?_⟩
      refine (St.le_of id (by simp [Tle, AVle, A0le, Mem.get]) (by simp [Mle, Ele, Mem.get]) (by simp) (by simp))
    · have hbt : e / 2 ^ i % 2 = 0 := by
        have : ¬ e / 2 ^ i % 2 = 1 := by simpa using hbt
        omega
      simp only [SX, simprocAttr, TYX, cellsE, foldE, foldN, cellsN, b_EN, k32, kA, kB, ud3, it63, Int.toNat_natCast, Down.next hi]
      refine ⟨(i, 0), ⟨Nat.le_of_lt hi, Nat.zero_lt_one, rfl⟩, (show i < i + 1 by omega), ?_⟩
      refine (St.le_of id (by simp [Tle, AVle, A0le, Mem.get]) (by simp [Mle, Ele, Mem.get]) (by simp) (by simp))
  have hi : i < 256 := by omega
  have hj : i / 64 < 4 := by omega
  simp only [SX, simprocAttr, TYX, cellsE, foldE, foldN, cellsN, b_EN, k32, kA, kB, ud3, it63, Int.toNat_natCast, Down.hz, Down.ge, Down.quo hi, Down.rem, Down.conv, Down.j0, Down.j4 hi, Down.j hi, getLX _ _ hj, bitLX, Down.next hi]
  refine cond_split (fun hbt => ?_) (fun hbt => ?_)
  · have hbt : e / 2 ^ i % 2 = 0 := by simpa using hbt
    simp only [SX, simprocAttr, TYX, cellsE, foldE, foldN, cellsN, b_EN, k32, kA, kB, ud3, it63, Int.toNat_natCast, Down.next hi]
    refine ⟨i, ⟨Nat.le_of_lt hi, top_step hz hbt⟩, (show i < i + 1 by omega), ?_⟩
    refine (St.le_of id (by simp [Tle, AVle, A0le, Mem.get]) (by simp [Mle, Ele, Mem.get]) (by simp) (by simp))
  · clear hi hj
    simp only [SX, simprocAttr, TYX, cellsE, foldE, foldN, cellsN, b_EN, k32, kA, kB, ud3, it63, Int.toNat_natCast]
    refine loop_inv mixed (by trivial) (γ := Nat × Nat) (fun g => ⟨[.o (.v (.int .i64 s)), .o .any, .o .any, .o .any, .o (.p 3 0), .o (.p 7 0), .o (.p 11 0), .o (.p 27 0), .o .any, .o (.v (.int .i64 ((g.1 : Int) - 1))), .o .any, .o .any, .o .any, .o .any, .o .any, .o .any, .o .any, .o .any, .o .any, .o .any, .o .any, .o .any, .o .any, .o .any, .o .any, .o .any, .o .any, .o .any, .o .any, .o .any, .o .any, .o .any, .o .any, .o .any, .o .any, .o .any, .o .any, .o .any, .o .any, .o .any, .o .any, .o .any, .o .any, .o .any, .o .any, .o .any, .o .any, .o .any, .o .any, .o .any, .o .any, .o .any, .o .any], [(27, .box [u64 (L0 g.2), u64 (L1 g.2), u64 (L2 g.2), u64 (L3 g.2)]), (11, .box [u64 0, u64 0, u64 0, u64 0]), (7, .box [u64 (L0 e), u64 (L1 e), u64 (L2 e), u64 (L3 e)]), (3, .box [u64 (L0 a), u64 (L1 a), u64 (L2 a), u64 (L3 a)])], 1000⟩)
      (fun g => g.1 ≤ 256 ∧ g.2 < 1 ∧ g.2 = 0) (fun g => g.1) (i + 1, 0) ⟨by omega, Nat.zero_lt_one, rfl⟩ (St.le_of id (by simp [Tle, AVle, A0le, Mem.get]) (by simp [Mle, Ele, Mem.get]) (by simp) (by simp)) 1000 ?_
    rintro ⟨n, o⟩ ⟨hn, ho, hinv⟩
    simp only at hn ho hinv
    rcases n with _ | i
    · subst hinv
      simp only [SX, simprocAttr, TYX, cellsE, foldE, foldN, cellsN, b_EN, k32, kA, kB, ud3, it63, Int.toNat_natCast, Down.end0]
    have hi : i < 256 := by omega
    have hj : i / 64 < 4 := by omega
    have hoW : o < W256 := Nat.lt_trans ho (by decide : 1 < W256)
    simp only [SX, simprocAttr, TYX, cellsE, foldE, foldN, cellsN, b_EN, k32, kA, kB, ud3, it63, Int.toNat_natCast, Down.hz, Down.ge, Down.quo hi, Down.rem, Down.conv, Down.j0, Down.j4 hi, Down.j hi, getLX _ _ hj, bitLX, Down.next hi]
    refine CallVC.intro ((fun x y (_ : x < W256) (_ : y < W256) => rn_Mul F x y) o o hoW hoW) ⟨rfl, rfl, rfl, trivial⟩ rfl rfl ?_
    simp only [SX, simprocAttr, TYX, cellsE, foldE, foldN, cellsN, b_EN, k32, kA, kB, ud3, it63, Int.toNat_natCast, Down.hz, Down.ge, Down.quo hi, Down.rem, Down.conv, Down.j0, Down.j4 hi, Down.j hi, getLX _ _ hj, bitLX, Down.next hi]
    refine cond_split (fun hbt => ?_) (fun hbt => ?_)
    · have hbt : e / 2 ^ i % 2 = 1 := by simpa using hbt
      simp only [SX, simprocAttr, TYX, cellsE, foldE, foldN, cellsN, b_EN, k32, kA, kB, ud3, it63, Int.toNat_natCast]
      refine CallVC.intro ((fun x y (_ : x < W256) (_ : y < W256) => rn_Mul F x y) (0) a (by decide) ha) ⟨rfl, rfl, rfl, trivial⟩ rfl rfl ?_
      simp only [SX, simprocAttr, TYX, cellsE, foldE, foldN, cellsN, b_EN, k32, kA, kB, ud3, it63, Int.toNat_natCast, Down.next hi]
      refine ⟨(i, 0), ⟨Nat.le_of_lt hi, Nat.zero_lt_one, rfl⟩, (show i < i + 1 by omega), ?_⟩
      refine (St.le_of id (by simp [Tle, AVle, A0le, Mem.get]) (by simp [Mle, Ele, Mem.get]) (by simp) (by simp))
    · have hbt : e / 2 ^ i % 2 = 0 := by
        have : ¬ e / 2 ^ i % 2 = 1 := by simpa using hbt
        omega
      simp only [SX, simprocAttr, TYX, cellsE, foldE, foldN, cellsN, b_EN, k32, kA, kB, ud3, it63, Int.toNat_natCast, Down.next hi]
      refine ⟨(i, 0), ⟨Nat.le_of_lt hi, Nat.zero_lt_one, rfl⟩, (show i < i + 1 by omega), ?_⟩
      refine (St.le_of id (by simp [Tle, AVle, A0le, Mem.get]) (by simp [Mle, Ele, Mem.get]) (by simp) (by simp))
end
end Go.Sx
