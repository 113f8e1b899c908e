/-
  Walks: field.Add, Neg, Sub, Mul, by the sort. No conditions.
-/
import Derived.Test.YtmgheellmllfpaaFldI
namespace Go.Sx
open Go.Proofs
-- TY: TYX, cellsE, foldE, foldN, cellsN, b_EN, cellsNV, foldNV
set_option maxRecDepth 100000
set_option linter.unusedSimpArgs false
set_option pp.deepTerms false
set_option pp.deepTerms.threshold 3
/-- A sort and its field. -/
structure FS (s : Int) (m : Nat) (ad : Int) (sm ng sq : Nat) : Prop extends FM m ad sm ng sq where
  of : Contract Try.prog 50 [.val (.int .i64 s)] [.val (NV m ad sm ng sq), .val (.int .i64 0)]
theorem SA' : FS 0 PA 9 PA 0 0 := ⟨MA, c_of0⟩
theorem SB' : FS 1 PB 11 PB 0 0 := ⟨MB, c_of1⟩
theorem SC' : FS 2 PC 32 0 0x992d30ecffffffff SC := ⟨MC, c_of2⟩
theorem SD' : FS 3 PD 32 0 0x8c46eb20ffffffff SD := ⟨MD, c_of3⟩
/-- No sort. -/
structure NS (s : Int) : Prop where
  of : Contract Try.prog 50 [.val (.int .i64 s)] [.val (NV 0 0 0 0 0), .val (.int .i64 20)]
section
variable {s : Int} {m sm ng sq : Nat} {ad : Int}
theorem c_Add (F : FS s m ad sm ng sq) (a b : Nat) (ha : a < W256) (hb : b < W256) : Contract Try.prog 17 [.val (.int .i64 s), .val (EN a), .val (EN b)] [.val (EN ((a + b) % m))] := by
  refine contract_of (N := _) (vars := _) (c := bodyOf Try.f17) Try.func17 (body_eq rfl) rfl rfl (by rfl) mixed _ _ trivial 1000 ?_
  simp only [bodyOf, Try.f17, Option.getD_some, argA, argE, List.length_cons, List.length_nil, Nat.reduceAdd, Nat.reduceSub, List.replicate, List.cons_append, List.nil_append]
  simp only [SX, simprocAttr, TYX, cellsE, foldE, foldN, cellsN, b_EN, cellsNV, foldNV]
  refine CallVC.intro F.of ⟨rfl, trivial⟩ rfl rfl ?_
  simp only [SX, simprocAttr, TYX, cellsE, foldE, foldN, cellsN, b_EN, cellsNV, foldNV]
  refine CallVC.intro (c_add F.toFN a b ha hb) ⟨rfl, rfl, rfl, trivial⟩ rfl rfl ?_
  simp only [SX, simprocAttr, TYX, cellsE, foldE, foldN, cellsN, b_EN, cellsNV, foldNV]
theorem n_Add (F : NS s) (a b : Nat) : Contract Try.prog 17 [.val (.int .i64 s), .val (EN a), .val (EN b)] [.val (EN 0)] := by
  refine contract_of (N := _) (vars := _) (c := bodyOf Try.f17) Try.func17 (body_eq rfl) rfl rfl (by rfl) mixed _ _ trivial 1000 ?_
  simp only [bodyOf, Try.f17, Option.getD_some, argA, argE, List.length_cons, List.length_nil, Nat.reduceAdd, Nat.reduceSub, List.replicate, List.cons_append, List.nil_append]
  simp only [SX, simprocAttr, TYX, cellsE, foldE, foldN, cellsN, b_EN, cellsNV, foldNV]
  refine CallVC.intro F.of ⟨rfl, trivial⟩ rfl rfl ?_
  simp only [SX, simprocAttr, TYX, cellsE, foldE, foldN, cellsN, b_EN, cellsNV, foldNV]
  refine X0 ?_
  simp only [SX, simprocAttr, TYX, cellsE, foldE, foldN, cellsN, b_EN, cellsNV, foldNV]
theorem c_Neg (F : FS s m ad sm ng sq) (a : Nat) (ha : a < W256) : Contract Try.prog 19 [.val (.int .i64 s), .val (EN a)] [.val (EN ((m - a % m) % m))] := by
  refine contract_of (N := _) (vars := _) (c := bodyOf Try.f19) Try.func19 (body_eq rfl) rfl rfl (by rfl) mixed _ _ trivial 1000 ?_
  simp only [bodyOf, Try.f19, Option.getD_some, argA, argE, List.length_cons, List.length_nil, Nat.reduceAdd, Nat.reduceSub, List.replicate, List.cons_append, List.nil_append]
  simp only [SX, simprocAttr, TYX, cellsE, foldE, foldN, cellsN, b_EN, cellsNV, foldNV]
  refine CallVC.intro F.of ⟨rfl, trivial⟩ rfl rfl ?_
  simp only [SX, simprocAttr, TYX, cellsE, foldE, foldN, cellsN, b_EN, cellsNV, foldNV]
  refine CallVC.intro (c_neg0 F.toFN a ha) ⟨rfl, rfl, trivial⟩ rfl rfl ?_
  simp only [SX, simprocAttr, TYX, cellsE, foldE, foldN, cellsN, b_EN, cellsNV, foldNV]
theorem n_Neg (F : NS s) (a : Nat) : Contract Try.prog 19 [.val (.int .i64 s), .val (EN a)] [.val (EN 0)] := by
  refine contract_of (N := _) (vars := _) (c := bodyOf Try.f19) Try.func19 (body_eq rfl) rfl rfl (by rfl) mixed _ _ trivial 1000 ?_
  simp only [bodyOf, Try.f19, Option.getD_some, argA, argE, List.length_cons, List.length_nil, Nat.reduceAdd, Nat.reduceSub, List.replicate, List.cons_append, List.nil_append]
  simp only [SX, simprocAttr, TYX, cellsE, foldE, foldN, cellsN, b_EN, cellsNV, foldNV]
  refine CallVC.intro F.of ⟨rfl, trivial⟩ rfl rfl ?_
  simp only [SX, simprocAttr, TYX, cellsE, foldE, foldN, cellsN, b_EN, cellsNV, foldNV]
  refine X0 ?_
  simp only [SX, simprocAttr, TYX, cellsE, foldE, foldN, cellsN, b_EN, cellsNV, foldNV]
theorem c_Mul (F : FS s m ad sm ng sq) (a b : Nat) (ha : a < W256) (hb : b < W256) : Contract Try.prog 13 [.val (.int .i64 s), .val (EN a), .val (EN b)] [.val (EN (a * b % m))] := by
  refine contract_of (N := _) (vars := _) (c := bodyOf Try.f13) Try.func13 (body_eq rfl) rfl rfl (by rfl) mixed _ _ trivial 1000 ?_
  simp only [bodyOf, Try.f13, Option.getD_some, argA, argE, List.length_cons, List.length_nil, Nat.reduceAdd, Nat.reduceSub, List.replicate, List.cons_append, List.nil_append]
  simp only [SX, simprocAttr, TYX, cellsE, foldE, foldN, cellsN, b_EN, cellsNV, foldNV]
  refine CallVC.intro F.of ⟨rfl, trivial⟩ rfl rfl ?_
  simp only [SX, simprocAttr, TYX, cellsE, foldE, foldN, cellsN, b_EN, cellsNV, foldNV]
  refine CallVC.intro (F.mul a b ha hb) ⟨rfl, rfl, rfl, trivial⟩ rfl rfl ?_
  simp only [SX, simprocAttr, TYX, cellsE, foldE, foldN, cellsN, b_EN, cellsNV, foldNV]
theorem n_Mul (F : NS s) (a b : Nat) : Contract Try.prog 13 [.val (.int .i64 s), .val (EN a), .val (EN b)] [.val (EN 0)] := by
  refine contract_of (N := _) (vars := _) (c := bodyOf Try.f13) Try.func13 (body_eq rfl) rfl rfl (by rfl) mixed _ _ trivial 1000 ?_
  simp only [bodyOf, Try.f13, Option.getD_some, argA, argE, List.length_cons, List.length_nil, Nat.reduceAdd, Nat.reduceSub, List.replicate, List.cons_append, List.nil_append]
  simp only [SX, simprocAttr, TYX, cellsE, foldE, foldN, cellsN, b_EN, cellsNV, foldNV]
  refine CallVC.intro F.of ⟨rfl, trivial⟩ rfl rfl ?_
  simp only [SX, simprocAttr, TYX, cellsE, foldE, foldN, cellsN, b_EN, cellsNV, foldNV]
  refine X0 ?_
  simp only [SX, simprocAttr, TYX, cellsE, foldE, foldN, cellsN, b_EN, cellsNV, foldNV]
theorem c_Sub (F : FS s m ad sm ng sq) (a b : Nat) (ha : a < W256) (hb : b < W256) : Contract Try.prog 18 [.val (.int .i64 s), .val (EN a), .val (EN b)] [.val (EN ((a + (m - b % m) % m) % m))] := by
  refine contract_of (N := _) (vars := _) (c := bodyOf Try.f18) Try.func18 (body_eq rfl) rfl rfl (by rfl) mixed _ _ trivial 1000 ?_
  simp only [bodyOf, Try.f18, Option.getD_some, argA, argE, List.length_cons, List.length_nil, Nat.reduceAdd, Nat.reduceSub, List.replicate, List.cons_append, List.nil_append]
  simp only [SX, simprocAttr, TYX, cellsE, foldE, foldN, cellsN, b_EN, cellsNV, foldNV]
  refine ⟨by kernel_rfl, ?_⟩
  refine CallVC.intro (c_Neg F b hb) ⟨rfl, rfl, trivial⟩ rfl rfl ?_
  simp only [SX, simprocAttr, TYX, cellsE, foldE, foldN, cellsN, b_EN, cellsNV, foldNV]
  refine CallVC.intro (c_Add F a _ ha (F.mod2 _)) ⟨rfl, rfl, rfl, trivial⟩ rfl rfl ?_
  simp only [SX, simprocAttr, TYX, cellsE, foldE, foldN, cellsN, b_EN, cellsNV, foldNV]
theorem n_Sub (F : NS s) (a b : Nat) : Contract Try.prog 18 [.val (.int .i64 s), .val (EN a), .val (EN b)] [.val (EN 0)] := by
  refine contract_of (N := _) (vars := _) (c := bodyOf Try.f18) Try.func18 (body_eq rfl) rfl rfl (by rfl) mixed _ _ trivial 1000 ?_
  simp only [bodyOf, Try.f18, Option.getD_some, argA, argE, List.length_cons, List.length_nil, Nat.reduceAdd, Nat.reduceSub, List.replicate, List.cons_append, List.nil_append]
  simp only [SX, simprocAttr, TYX, cellsE, foldE, foldN, cellsN, b_EN, cellsNV, foldNV]
  refine ⟨by kernel_rfl, ?_⟩
  refine CallVC.intro (n_Neg F b) ⟨rfl, rfl, trivial⟩ rfl rfl ?_
  simp only [SX, simprocAttr, TYX, cellsE, foldE, foldN, cellsN, b_EN, cellsNV, foldNV]
  refine CallVC.intro (n_Add F a _) ⟨rfl, rfl, rfl, trivial⟩ rfl rfl ?_
  simp only [SX, simprocAttr, TYX, cellsE, foldE, foldN, cellsN, b_EN, cellsNV, foldNV]
theorem exp_odd (m o b x : Nat) (h : x % 2 = 1) : ((o * b % m) * (b * b % m) ^ (x / 2)) % m = (o * b ^ x) % m := by
  have e : x = 2 * (x / 2) + 1 := by omega
  rw [Nat.mul_mod, Nat.mod_mod, ← Nat.pow_mod, ← Nat.mul_mod]
  conv => rhs; rw [e]
  rw [Nat.pow_succ, Nat.pow_mul, Nat.pow_two, Nat.mul_assoc, Nat.mul_comm b]
theorem exp_even (m o b x : Nat) (h : x % 2 = 0) : (o * (b * b % m) ^ (x / 2)) % m = (o * b ^ x) % m := by
  have e : x = 2 * (x / 2) := by omega
  rw [Nat.mul_mod, ← Nat.pow_mod, ← Nat.mul_mod]
  conv => rhs; rw [e]
  rw [Nat.pow_mul, Nat.pow_two]
theorem L0_odd (x : Nat) : L0 x % 2 = x % 2 := by unfold L0; omega
theorem c_Exp (F : FS s m ad sm ng sq) (a e : Nat) (ha : a < W256) (he : e < W256) : Contract Try.prog 15 [.val (.int .i64 s), .val (EN a), .val (EN e)] [.val (EN (a ^ e % m))] := by
  refine contract_of (N := _) (vars := _) (c := bodyOf Try.f15) Try.func15 (body_eq rfl) rfl rfl (by rfl) mixed _ _ trivial 1000 ?_
  simp only [bodyOf, Try.f15, Option.getD_some, argA, argE, List.length_cons, List.length_nil, Nat.reduceAdd, Nat.reduceSub, List.replicate, List.cons_append, List.nil_append]
  simp only [SX, simprocAttr, TYX, cellsE, foldE, foldN, cellsN, b_EN, cellsNV, foldNV]
  refine CallVC.intro F.of ⟨rfl, trivial⟩ rfl rfl ?_
  simp only [SX, simprocAttr, TYX, cellsE, foldE, foldN, cellsN, b_EN, cellsNV, foldNV]
  refine X1 1 (by rfl) ?_
  rw [EN_small (by decide)]
  simp only [SX, simprocAttr, TYX, cellsE, foldE, foldN, cellsN, b_EN, cellsNV, foldNV]
  refine CallVC.intro (F.reduce a ha) ⟨rfl, rfl, trivial⟩ rfl rfl ?_
  simp only [SX, simprocAttr, TYX, cellsE, foldE, foldN, cellsN, b_EN, cellsNV, foldNV]
  refine loop_inv mixed (by trivial) (γ := Nat × Nat × Nat) (fun g => ⟨[.o .any, .o .any, .o .any, .o .any, .o (.p 3 0), .o (.p 7 0), .o (.p 11 0), .o (.p 35 0), .o .any, .o (.p 59 0), .o .any, .o .any, .o .any, .o .any, .o .any, .o .any, .o .any, .o .any, .o .any, .o .any, .o .any, .o .any, .o .any, .o .any, .o .any, .o .any, .o .any, .o .any, .o .any, .o .any, .o .any, .o .any, .o .any, .o .any, .o .any, .o .any, .o .any, .o .any, .o .any, .o .any],
    [(59, .box [u64 (L0 g.1), u64 (L1 g.1), u64 (L2 g.1), u64 (L3 g.1)]), (35, .box [u64 (L0 m), u64 (L1 m), u64 (L2 m), u64 (L3 m), Value.int IntKind.i64 ad, u64 sm, u64 ng, u64 (L0 sq), u64 (L1 sq), u64 (L2 sq), u64 (L3 sq)]),
     (11, .box [u64 0, u64 0, u64 0, u64 0]), (7, .box [u64 (L0 g.2.2), u64 (L1 g.2.2), u64 (L2 g.2.2), u64 (L3 g.2.2)]), (3, .box [u64 (L0 g.2.1), u64 (L1 g.2.1), u64 (L2 g.2.1), u64 (L3 g.2.1)])], 1000⟩)
    (fun g => g.1 < m ∧ g.2.1 < W256 ∧ g.2.2 < W256 ∧ (g.1 * g.2.1 ^ g.2.2) % m = a ^ e % m) (fun g => g.2.2) (1, a % m, e) ⟨F.one, F.mod2 a, he, by simp only [Nat.one_mul]; rw [← Nat.pow_mod]⟩ (St.le_of id (by simp [Tle, AVle, A0le, Mem.get]) (by simp [Mle, Ele, Mem.get]) (by simp) (by simp)) 1000 ?_
  rintro ⟨o, b, x⟩ ⟨ho, hb, hx, hinv⟩
  simp only at ho hb hx hinv
  have ho2 : o < W256 := Nat.lt_trans ho F.lt
  simp only [SX, simprocAttr, TYX, cellsE, foldE, foldN, cellsN, b_EN, cellsNV, foldNV]
  refine X0 ?_
  simp only [SX, simprocAttr, TYX, cellsE, foldE, foldN, cellsN, b_EN, cellsNV, foldNV]
  refine XNe x 0 hx (by decide) (by rfl) (by rfl) ?_
  simp only [SX, simprocAttr, TYX, cellsE, foldE, foldN, cellsN, b_EN, cellsNV, foldNV]
  refine cond_split (fun h0 => ?_) (fun h0 => ?_)
  · have h0 : x ≠ 0 := by simpa using h0
    simp only [SX, simprocAttr, TYX, cellsE, foldE, foldN, cellsN, b_EN, cellsNV, foldNV]
    refine cond_split (fun h1 => ?_) (fun h1 => ?_)
    · have h1 : x % 2 = 1 := by rw [← L0_odd]; simpa using h1
      simp only [SX, simprocAttr, TYX, cellsE, foldE, foldN, cellsN, b_EN, cellsNV, foldNV]
      refine CallVC.intro (F.mul o b ho2 hb) ⟨rfl, rfl, rfl, trivial⟩ rfl rfl ?_
      simp only [SX, simprocAttr, TYX, cellsE, foldE, foldN, cellsN, b_EN, cellsNV, foldNV]
      refine CallVC.intro (F.mul b b hb hb) ⟨rfl, rfl, rfl, trivial⟩ rfl rfl ?_
      simp only [SX, simprocAttr, TYX, cellsE, foldE, foldN, cellsN, b_EN, cellsNV, foldNV]
      refine CallVC.intro (c_half x hx) ⟨rfl, trivial⟩ rfl rfl ?_
      simp only [SX, simprocAttr, TYX, cellsE, foldE, foldN, cellsN, b_EN, cellsNV, foldNV]
      refine ⟨(o * b % m, b * b % m, x / 2), ⟨F.mod _, F.mod2 _, (show x / 2 < W256 by omega), by rw [← hinv]; exact exp_odd m o b x h1⟩, (show x / 2 < x by omega), ?_⟩
      refine (St.le_of id (by simp [Tle, AVle, A0le, Mem.get]) (by simp [Mle, Ele, Mem.get]) (by simp) (by simp))
    · have h1 : x % 2 = 0 := by
        have : L0 x % 2 ≠ 1 := by simpa using h1
        rw [L0_odd] at this; omega
      simp only [SX, simprocAttr, TYX, cellsE, foldE, foldN, cellsN, b_EN, cellsNV, foldNV]
      refine CallVC.intro (F.mul b b hb hb) ⟨rfl, rfl, rfl, trivial⟩ rfl rfl ?_
      simp only [SX, simprocAttr, TYX, cellsE, foldE, foldN, cellsN, b_EN, cellsNV, foldNV]
      refine CallVC.intro (c_half x hx) ⟨rfl, trivial⟩ rfl rfl ?_
      simp only [SX, simprocAttr, TYX, cellsE, foldE, foldN, cellsN, b_EN, cellsNV, foldNV]
      refine ⟨(o, b * b % m, x / 2), ⟨ho, F.mod2 _, (show x / 2 < W256 by omega), by rw [← hinv]; exact exp_even m o b x h1⟩, (show x / 2 < x by omega), ?_⟩
      refine (St.le_of id (by simp [Tle, AVle, A0le, Mem.get]) (by simp [Mle, Ele, Mem.get]) (by simp) (by simp))
  · have h0 : x = 0 := by simpa using h0
    subst h0
    rw [Nat.pow_zero, Nat.mul_one, Nat.mod_eq_of_lt ho] at hinv
    simp only [SX, simprocAttr, TYX, cellsE, foldE, foldN, cellsN, b_EN, cellsNV, foldNV, hinv]
theorem n_Exp (F : NS s) (a e : Nat) : Contract Try.prog 15 [.val (.int .i64 s), .val (EN a), .val (EN e)] [.val (EN 0)] := by
  refine contract_of (N := _) (vars := _) (c := bodyOf Try.f15) Try.func15 (body_eq rfl) rfl rfl (by rfl) mixed _ _ trivial 1000 ?_
  simp only [bodyOf, Try.f15, Option.getD_some, argA, argE, List.length_cons, List.length_nil, Nat.reduceAdd, Nat.reduceSub, List.replicate, List.cons_append, List.nil_append]
  simp only [SX, simprocAttr, TYX, cellsE, foldE, foldN, cellsN, b_EN, cellsNV, foldNV]
  refine CallVC.intro F.of ⟨rfl, trivial⟩ rfl rfl ?_
  simp only [SX, simprocAttr, TYX, cellsE, foldE, foldN, cellsN, b_EN, cellsNV, foldNV]
  refine X0 ?_
  simp only [SX, simprocAttr, TYX, cellsE, foldE, foldN, cellsN, b_EN, cellsNV, foldNV]
end
end Go.Sx
