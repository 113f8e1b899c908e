/-
  The law FieldLaws. No conditions.
-/
import Derived.Test.YtmgheellmllfpaaFldP
namespace Go.Sx
open Go.Proofs
-- TY: tz24, tz22, ag24, ag22, zc24, ar24, cellsE, foldE, foldN, cellsN, b_EN, wr0, wrm1
set_option maxRecDepth 100000
set_option linter.unusedSimpArgs false
set_option pp.deepTerms false
set_option pp.deepTerms.threshold 3
section
variable {s : Int} {m sm ng sq : Nat} {ad : Int}
theorem mod_mod_mul (m x y : Nat) : (x % m * y) % m = (x * y) % m := by rw [Nat.mul_mod, Nat.mod_mod, ← Nat.mul_mod]
theorem mod_mul_mod' (m x y : Nat) : (x * (y % m)) % m = (x * y) % m := by rw [Nat.mul_mod, Nat.mod_mod, ← Nat.mul_mod]
theorem add_neg (m a : Nat) (hm : 0 < m) : (a + (m - a % m) % m) % m = 0 := by
  rw [Nat.add_mod_mod]
  have h := Nat.div_add_mod a m
  have h2 := Nat.mod_lt a hm
  have e : a + (m - a % m) = m * (a / m + 1) := by rw [Nat.mul_add, Nat.mul_one]; omega
  rw [e, Nat.mul_mod_right]
theorem add_sub (m b c : Nat) (hm : 0 < m) : ((b + c) % m + (m - c % m) % m) % m = b % m := by
  rw [Nat.mod_add_mod, Nat.add_mod_mod, Nat.add_assoc]
  have h := Nat.div_add_mod c m
  have h2 := Nat.mod_lt c hm
  have e : c + (m - c % m) = m * (c / m + 1) := by rw [Nat.mul_add, Nat.mul_one]; omega
  rw [e, Nat.add_mul_mod_self_left]
theorem law_laws (F : FS s m ad sm ng sq) (P : Num.PR m) (hs1 : decide (s < 0) = false) (hs2 : decide (3 < s) = false) (a b c : Nat) (ha : a < W256) (hb : b < W256) (hc : c < W256) :
    Contract Try.prog 4 [.val (.int .i64 s), .val (EN a), .val (EN b), .val (EN c)] [.val (.bool true)] := by
  have hm : 0 < m := by have := F.one; omega
  have M := F.mod2
  have e1 : (a * b % m != b * a % m) = false := by rw [Nat.mul_comm]; simp
  have e2 : (a * b % m * c % m != a * (b * c % m) % m) = false := by rw [mod_mod_mul, mod_mul_mod', Nat.mul_assoc]; simp
  have e3 : (a * ((b + c) % m) % m != (a * b % m + a * c % m) % m) = false := by rw [mod_mul_mod', Nat.mul_add, ← Nat.add_mod]; simp
  have e4 : (((b + c) % m + (m - c % m) % m) % m != b % m) = false := by rw [add_sub m b c hm]; simp
  have e5 : ((a + (m - a % m) % m) % m != 0) = false := by rw [add_neg m a hm]; simp
  refine contract_of (N := _) (vars := _) (c := bodyOf Try.f4) Try.func4 (body_eq rfl) rfl rfl (by rfl) mixed _ _ trivial 1000 ?_
  simp only [bodyOf, Try.f4, Option.getD_some, argA, argE, List.length_cons, List.length_nil, Nat.reduceAdd, Nat.reduceSub, List.replicate, List.cons_append, List.nil_append]
  simp only [SX, simprocAttr, tz24, tz22, ag24, ag22, zc24, ar24, cellsE, foldE, foldN, cellsN, b_EN, wr0, wrm1]
  refine CallVC.intro c_alive trivial rfl rfl ?_
  simp only [SX, simprocAttr, tz24, tz22, ag24, ag22, zc24, ar24, cellsE, foldE, foldN, cellsN, b_EN, wr0, wrm1, hs1, hs2]
  refine CallVC.intro (c_Mul F a b ha hb) ⟨rfl, rfl, rfl, trivial⟩ rfl rfl ?_
  simp only [SX, simprocAttr, tz24, tz22, ag24, ag22, zc24, ar24, cellsE, foldE, foldN, cellsN, b_EN, wr0, wrm1]
  refine CallVC.intro (c_Add F b c hb hc) ⟨rfl, rfl, rfl, trivial⟩ rfl rfl ?_
  simp only [SX, simprocAttr, tz24, tz22, ag24, ag22, zc24, ar24, cellsE, foldE, foldN, cellsN, b_EN, wr0, wrm1]
  refine ⟨by kernel_rfl, ?_⟩
  refine CallVC.intro (c_Mul F b a hb ha) ⟨rfl, rfl, rfl, trivial⟩ rfl rfl ?_
  simp only [SX, simprocAttr, tz24, tz22, ag24, ag22, zc24, ar24, cellsE, foldE, foldN, cellsN, b_EN, wr0, wrm1]
  refine XNe (a * b % m) (b * a % m) (M _) (M _) (by rfl) (by rfl) ?_
  simp only [SX, simprocAttr, tz24, tz22, ag24, ag22, zc24, ar24, cellsE, foldE, foldN, cellsN, b_EN, wr0, wrm1, e1]
  refine CallVC.intro (c_Mul F (a * b % m) c (M _) hc) ⟨rfl, rfl, rfl, trivial⟩ rfl rfl ?_
  simp only [SX, simprocAttr, tz24, tz22, ag24, ag22, zc24, ar24, cellsE, foldE, foldN, cellsN, b_EN, wr0, wrm1]
  refine CallVC.intro (c_Mul F b c hb hc) ⟨rfl, rfl, rfl, trivial⟩ rfl rfl ?_
  simp only [SX, simprocAttr, tz24, tz22, ag24, ag22, zc24, ar24, cellsE, foldE, foldN, cellsN, b_EN, wr0, wrm1]
  refine CallVC.intro (c_Mul F a (b * c % m) ha (M _)) ⟨rfl, rfl, rfl, trivial⟩ rfl rfl ?_
  simp only [SX, simprocAttr, tz24, tz22, ag24, ag22, zc24, ar24, cellsE, foldE, foldN, cellsN, b_EN, wr0, wrm1]
  refine XNe _ _ (M _) (M _) (by rfl) (by rfl) ?_
  simp only [SX, simprocAttr, tz24, tz22, ag24, ag22, zc24, ar24, cellsE, foldE, foldN, cellsN, b_EN, wr0, wrm1, e2]
  refine CallVC.intro (c_Mul F a ((b + c) % m) ha (M _)) ⟨rfl, rfl, rfl, trivial⟩ rfl rfl ?_
  simp only [SX, simprocAttr, tz24, tz22, ag24, ag22, zc24, ar24, cellsE, foldE, foldN, cellsN, b_EN, wr0, wrm1]
  refine CallVC.intro (c_Mul F a c ha hc) ⟨rfl, rfl, rfl, trivial⟩ rfl rfl ?_
  simp only [SX, simprocAttr, tz24, tz22, ag24, ag22, zc24, ar24, cellsE, foldE, foldN, cellsN, b_EN, wr0, wrm1]
  refine CallVC.intro (c_Add F (a * b % m) (a * c % m) (M _) (M _)) ⟨rfl, rfl, rfl, trivial⟩ rfl rfl ?_
  simp only [SX, simprocAttr, tz24, tz22, ag24, ag22, zc24, ar24, cellsE, foldE, foldN, cellsN, b_EN, wr0, wrm1]
  refine XNe _ _ (M _) (M _) (by rfl) (by rfl) ?_
  simp only [SX, simprocAttr, tz24, tz22, ag24, ag22, zc24, ar24, cellsE, foldE, foldN, cellsN, b_EN, wr0, wrm1, e3]
  refine CallVC.intro (c_Sub F ((b + c) % m) c (M _) hc) ⟨rfl, rfl, rfl, trivial⟩ rfl rfl ?_
  simp only [SX, simprocAttr, tz24, tz22, ag24, ag22, zc24, ar24, cellsE, foldE, foldN, cellsN, b_EN, wr0, wrm1]
  refine X0 ?_
  simp only [SX, simprocAttr, tz24, tz22, ag24, ag22, zc24, ar24, cellsE, foldE, foldN, cellsN, b_EN, wr0, wrm1]
  refine CallVC.intro (c_Add F b 0 hb (by decide)) ⟨rfl, rfl, rfl, trivial⟩ rfl rfl ?_
  simp only [SX, simprocAttr, tz24, tz22, ag24, ag22, zc24, ar24, cellsE, foldE, foldN, cellsN, b_EN, wr0, wrm1]
  refine XNe _ _ (M _) (M _) (by rfl) (by rfl) ?_
  simp only [SX, simprocAttr, tz24, tz22, ag24, ag22, zc24, ar24, cellsE, foldE, foldN, cellsN, b_EN, wr0, wrm1, e4]
  refine X0 ?_
  simp only [SX, simprocAttr, tz24, tz22, ag24, ag22, zc24, ar24, cellsE, foldE, foldN, cellsN, b_EN, wr0, wrm1]
  refine ⟨by kernel_rfl, ?_⟩
  refine CallVC.intro (c_Neg F a ha) ⟨rfl, rfl, trivial⟩ rfl rfl ?_
  simp only [SX, simprocAttr, tz24, tz22, ag24, ag22, zc24, ar24, cellsE, foldE, foldN, cellsN, b_EN, wr0, wrm1]
  refine CallVC.intro (c_Add F a _ ha (M _)) ⟨rfl, rfl, rfl, trivial⟩ rfl rfl ?_
  simp only [SX, simprocAttr, tz24, tz22, ag24, ag22, zc24, ar24, cellsE, foldE, foldN, cellsN, b_EN, wr0, wrm1]
  refine XNe ((a + (m - a % m) % m) % m) 0 (M _) (by decide) (by rfl) (by rfl) ?_
  simp only [SX, simprocAttr, tz24, tz22, ag24, ag22, zc24, ar24, cellsE, foldE, foldN, cellsN, b_EN, wr0, wrm1, e5]
  by_cases h0 : a % m = 0
  · refine CallVC.intro (c_Inv0 F a ha h0) ⟨rfl, rfl, trivial⟩ rfl rfl ?_
    simp only [SX, simprocAttr, tz24, tz22, ag24, ag22, zc24, ar24, cellsE, foldE, foldN, cellsN, b_EN, wr0, wrm1]
    refine ⟨by kernel_rfl, ?_⟩
    refine CallVC.intro (c_Add F a 0 ha (by decide)) ⟨rfl, rfl, rfl, trivial⟩ rfl rfl ?_
    rw [Nat.add_zero, h0]
    simp only [SX, simprocAttr, tz24, tz22, ag24, ag22, zc24, ar24, cellsE, foldE, foldN, cellsN, b_EN, wr0, wrm1]
    refine XEq 0 0 (by decide) (by decide) (by rfl) (by rfl) ?_
    simp only [SX, simprocAttr, tz24, tz22, ag24, ag22, zc24, ar24, cellsE, foldE, foldN, cellsN, b_EN, wr0, wrm1]
  · refine CallVC.intro (c_Inv F a ha h0) ⟨rfl, rfl, trivial⟩ rfl rfl ?_
    simp only [SX, simprocAttr, tz24, tz22, ag24, ag22, zc24, ar24, cellsE, foldE, foldN, cellsN, b_EN, wr0, wrm1]
    have hinv : a ^ (m - 2) % m * a % m = 1 := by
      rw [mod_mod_mul, ← Nat.pow_succ, show (m - 2).succ = m - 1 by have := F.one; omega]
      exact P.2 a h0
    refine CallVC.intro (c_Mul F _ a (M _) ha) ⟨rfl, rfl, rfl, trivial⟩ rfl rfl ?_
    rw [hinv]
    simp only [SX, simprocAttr, tz24, tz22, ag24, ag22, zc24, ar24, cellsE, foldE, foldN, cellsN, b_EN, wr0, wrm1]
    refine X1 1 (by rfl) ?_
    rw [EN_small (by decide)]
    simp only [SX, simprocAttr, tz24, tz22, ag24, ag22, zc24, ar24, cellsE, foldE, foldN, cellsN, b_EN, wr0, wrm1]
    refine XEq 1 1 (by decide) (by decide) (by rfl) (by rfl) ?_
    simp only [SX, simprocAttr, tz24, tz22, ag24, ag22, zc24, ar24, cellsE, foldE, foldN, cellsN, b_EN, wr0, wrm1]
theorem lawn_laws (F : NS s) (a b c : Nat) (B : Bool) (hs1 : decide (s < 0) = B) (hs2 : B = false → decide (3 < s) = true) :
    Contract Try.prog 4 [.val (.int .i64 s), .val (EN a), .val (EN b), .val (EN c)] [.val (.bool true)] := by
  cases B
  · have hs2 := hs2 rfl
    refine contract_of (N := _) (vars := _) (c := bodyOf Try.f4) Try.func4 (body_eq rfl) rfl rfl (by rfl) mixed _ _ trivial 1000 ?_
    simp only [bodyOf, Try.f4, Option.getD_some, argA, argE, List.length_cons, List.length_nil, Nat.reduceAdd, Nat.reduceSub, List.replicate, List.cons_append, List.nil_append]
    simp only [SX, simprocAttr, tz24, tz22, ag24, ag22, zc24, ar24, cellsE, foldE, foldN, cellsN, b_EN, wr0, wrm1]
    refine CallVC.intro c_alive trivial rfl rfl ?_
    simp only [SX, simprocAttr, tz24, tz22, ag24, ag22, zc24, ar24, cellsE, foldE, foldN, cellsN, b_EN, wr0, wrm1, hs1, hs2]
    refine CallVC.intro (n_Add F a b) ⟨rfl, rfl, rfl, trivial⟩ rfl rfl ?_
    simp only [SX, simprocAttr, tz24, tz22, ag24, ag22, zc24, ar24, cellsE, foldE, foldN, cellsN, b_EN, wr0, wrm1]
    refine X0 ?_
    simp only [SX, simprocAttr, tz24, tz22, ag24, ag22, zc24, ar24, cellsE, foldE, foldN, cellsN, b_EN, wr0, wrm1]
    refine XEq 0 0 (by decide) (by decide) (by rfl) (by rfl) ?_
    simp only [SX, simprocAttr, tz24, tz22, ag24, ag22, zc24, ar24, cellsE, foldE, foldN, cellsN, b_EN, wr0, wrm1]
  ·
    refine contract_of (N := _) (vars := _) (c := bodyOf Try.f4) Try.func4 (body_eq rfl) rfl rfl (by rfl) mixed _ _ trivial 1000 ?_
    simp only [bodyOf, Try.f4, Option.getD_some, argA, argE, List.length_cons, List.length_nil, Nat.reduceAdd, Nat.reduceSub, List.replicate, List.cons_append, List.nil_append]
    simp only [SX, simprocAttr, tz24, tz22, ag24, ag22, zc24, ar24, cellsE, foldE, foldN, cellsN, b_EN, wr0, wrm1]
    refine CallVC.intro c_alive trivial rfl rfl ?_
    simp only [SX, simprocAttr, tz24, tz22, ag24, ag22, zc24, ar24, cellsE, foldE, foldN, cellsN, b_EN, wr0, wrm1, hs1]
    refine CallVC.intro (n_Add F a b) ⟨rfl, rfl, rfl, trivial⟩ rfl rfl ?_
    simp only [SX, simprocAttr, tz24, tz22, ag24, ag22, zc24, ar24, cellsE, foldE, foldN, cellsN, b_EN, wr0, wrm1]
    refine X0 ?_
    simp only [SX, simprocAttr, tz24, tz22, ag24, ag22, zc24, ar24, cellsE, foldE, foldN, cellsN, b_EN, wr0, wrm1]
    refine XEq 0 0 (by decide) (by decide) (by rfl) (by rfl) ?_
    simp only [SX, simprocAttr, tz24, tz22, ag24, ag22, zc24, ar24, cellsE, foldE, foldN, cellsN, b_EN, wr0, wrm1]
end
theorem F0 : Num.PR PA := Num.fermat0
theorem F1 : Num.PR PB := Num.fermat1
theorem F2 : Num.PR PC := Num.fermat2
theorem F3 : Num.PR PD := Num.fermat3
theorem c_laws (s : Int) (a b c : Nat) (ha : a < W256) (hb : b < W256) (hc : c < W256) : Contract Try.prog 4 [.val (.int .i64 s), .val (EN a), .val (EN b), .val (EN c)] [.val (.bool true)] := by
  rcases sort_cases s with rfl | rfl | rfl | rfl | ⟨h0, h1, h2, h3⟩
  · exact law_laws SA' F0 (by decide) (by decide) a b c ha hb hc
  · exact law_laws SB' F1 (by decide) (by decide) a b c ha hb hc
  · exact law_laws SC' F2 (by decide) (by decide) a b c ha hb hc
  · exact law_laws SD' F3 (by decide) (by decide) a b c ha hb hc
  · refine lawn_laws ⟨c_of9 s h0 h1 h2 h3⟩ a b c _ rfl ?_
    intro h
    simp only [decide_eq_false_iff_not] at h
    simp only [beq_eq_false_iff_ne, ne_eq] at h0 h1 h2 h3
    simp only [decide_eq_true_eq]
    omega
end Go.Sx
