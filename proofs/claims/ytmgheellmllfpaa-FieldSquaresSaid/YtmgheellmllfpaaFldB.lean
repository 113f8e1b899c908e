/-
  Elements in the machine: as numbers, built, compared. No conditions.
-/
import Derived.Test.YtmgheellmllfpaaFldA
import Derived.ChangeKeysEq
namespace Go.Sx
open Go.Proofs
def L0 (n : Nat) : Nat := n % 18446744073709551616
def L1 (n : Nat) : Nat := n / 18446744073709551616 % 18446744073709551616
def L2 (n : Nat) : Nat := n / 340282366920938463463374607431768211456 % 18446744073709551616
def L3 (n : Nat) : Nat := n / 6277101735386680763835789423207666416102355444464034512896 % 18446744073709551616
theorem EN_E4 (n : Nat) : EN n = E4 (L0 n) (L1 n) (L2 n) (L3 n) := rfl
theorem cellsN (n : Nat) : (EN n).cells.toList = [u64 (L0 n), u64 (L1 n), u64 (L2 n), u64 (L3 n)] := rfl
theorem b_EN {T : Nat → AV} {x y : Operand} {ty ty' : TypeId} {a b : Nat} {bop : BinOp} : binOn Try.prog T bop ty x y ty' (.o (.v (EN a))) (.o (.v (EN b))) = .ex (pureOp Try.prog T (.binOp bop ty x y ty')) := rfl
theorem foldN (n : Nat) : E4 (L0 n) (L1 n) (L2 n) (L3 n) = EN n := rfl
theorem L0_lt (n : Nat) : L0 n < 18446744073709551616 := Nat.mod_lt _ (by decide)
theorem L1_lt (n : Nat) : L1 n < 18446744073709551616 := Nat.mod_lt _ (by decide)
theorem L2_lt (n : Nat) : L2 n < 18446744073709551616 := Nat.mod_lt _ (by decide)
theorem L3_lt (n : Nat) : L3 n < 18446744073709551616 := Nat.mod_lt _ (by decide)
theorem L_sum {n : Nat} (h : n < W256) : n = L0 n + 18446744073709551616 * L1 n + 340282366920938463463374607431768211456 * L2 n + 6277101735386680763835789423207666416102355444464034512896 * L3 n := by
  unfold W256 at h
  unfold L0 L1 L2 L3
  omega
theorem E4_EN {a b c d : Nat} (ha : a < 18446744073709551616) (hb : b < 18446744073709551616) (hc : c < 18446744073709551616) (hd : d < 18446744073709551616) :
    E4 a b c d = EN (a + 18446744073709551616 * b + 340282366920938463463374607431768211456 * c + 6277101735386680763835789423207666416102355444464034512896 * d) := (EN_of ha hb hc hd rfl).symm
theorem EN_small {a : Nat} (ha : a < 18446744073709551616) : E4 a 0 0 0 = EN a := by
  rw [EN_of (n := a) (a := a) (b := 0) (c := 0) (d := 0) ha (by decide) (by decide) (by decide) (by omega)]
theorem EN_inj {a b : Nat} (ha : a < W256) (hb : b < W256) : (L0 a = L0 b ∧ L1 a = L1 b ∧ L2 a = L2 b ∧ L3 a = L3 b) ↔ a = b := by
  constructor
  · rintro ⟨h0, h1, h2, h3⟩
    rw [L_sum ha, L_sum hb, h0, h1, h2, h3]
  · rintro rfl; exact ⟨rfl, rfl, rfl, rfl⟩

theorem zElem : Try.prog.built 24 [] = some #[u64 0, u64 0, u64 0, u64 0] := by kernel_rfl
theorem zElem1 (a : Nat) : Try.prog.built 24 [(0, u64 a)] = some #[u64 a, u64 0, u64 0, u64 0] := by kernel_rfl
theorem zElem4 (a b c d : Nat) : Try.prog.built 24 [(0, u64 a), (1, u64 b), (2, u64 c), (3, u64 d)] = some #[u64 a, u64 b, u64 c, u64 d] := by kernel_rfl

section
variable {Q : St → Prop} {n : Nat} {dr : Bool} {all rest : List Oper} {k : List Frm} {st : St} {d : Option Nat}
theorem X0 (h : vcx Try.prog Q n (.ops dr all rest :: k) (st.put d (val (EN 0)))) : ExVC Try.prog Q n dr all rest k st d (pureOp Try.prog st.T (.build 24 #[])) :=
  ExVC.build [] (EN 0) _ rfl zElem rfl h
theorem X1 {x : Operand} (a : Nat) (hx : ev st.T x = .o (.v (u64 a))) (h : vcx Try.prog Q n (.ops dr all rest :: k) (st.put d (val (E4 a 0 0 0)))) :
    ExVC Try.prog Q n dr all rest k st d (pureOp Try.prog st.T (.build 24 #[(0, x)])) :=
  ExVC.build [(0, u64 a)] (E4 a 0 0 0) _ (by simp [plains, hx, plain]) (zElem1 a) rfl h
theorem X4 {x y z t : Operand} (a b c e : Nat) (hx : ev st.T x = .o (.v (u64 a))) (hy : ev st.T y = .o (.v (u64 b))) (hz : ev st.T z = .o (.v (u64 c))) (ht : ev st.T t = .o (.v (u64 e)))
    (h : vcx Try.prog Q n (.ops dr all rest :: k) (st.put d (val (E4 a b c e)))) :
    ExVC Try.prog Q n dr all rest k st d (pureOp Try.prog st.T (.build 24 #[(0, x), (1, y), (2, z), (3, t)])) :=
  ExVC.build [(0, u64 a), (1, u64 b), (2, u64 c), (3, u64 e)] (E4 a b c e) _ (by simp [plains, hx, hy, hz, ht, plain]) (zElem4 a b c e) rfl h
end

/-! ### two elements compared -/
theorem pk22 : Try.prog.plainKey 22 = true := by kernel_rfl
theorem un22 : Try.prog.underlying 22 = some (.int .u64) := by kernel_rfl
theorem un24 : Try.prog.underlying 24 = some (.array 4 22) := by kernel_rfl
theorem co22 : Try.prog.cellsOf 22 = 1 := by kernel_rfl
theorem gd24 : Try.prog.eqGuardType Try.prog.depth 24 = false := by kernel_rfl
theorem run_eqElem (w : World) (d a b c e a' b' c' e' : Nat) : (Op.equalIn (d + 2) 24 (E4 a b c e) (E4 a' b' c' e')).run Try.prog w = .ok (a == a' && b == b' && c == c' && e == e') w := by
  obtain ⟨i, hi⟩ := info_of_underlying un22
  unfold E4
  rw [run_equalIn_array w (d + 1) _ _ un24 hi, co22]
  have p : ∀ (x y z t : Nat) (j : Nat) (v : Value), #[u64 x, u64 y, u64 z, u64 t][j]? = some v → (part 22 #[u64 x, u64 y, u64 z, u64 t] j).run Try.prog w = .ok v w := fun x y z t j v hv => run_part_plain w pk22 hv
  have q : ∀ x y : Nat, (Op.equalIn (d + 1) 22 (u64 x) (u64 y)).run Try.prog w = .ok (x == y) w := by
    intro x y
    unfold u64
    rw [run_equalIn_int w d _ .u64 .u64 _ _ un22]
    congr 1
    rw [Bool.eq_iff_iff]; simp; omega
  rw [show List.range 4 = [0, 1, 2, 3] from rfl]
  have q0 := q a a'
  have q1 := q b b'
  have q2 := q c c'
  have q3 := q e e'
  generalize (a == a') = A at q0 ⊢
  generalize (b == b') = B at q1 ⊢
  generalize (c == c') = C at q2 ⊢
  generalize (e == e') = E at q3 ⊢
  have r : ∀ b : Bool, (pure b : Sem Bool).run Try.prog w = .ok b w := fun b => Sem.run_pure _ _ _
  cases A <;> cases B <;> cases C <;> cases E <;> simp only [Op.eqItems, Sem.run_bind, p a b c e 0 (u64 a) rfl, p a b c e 1 (u64 b) rfl, p a b c e 2 (u64 c) rfl, p a b c e 3 (u64 e) rfl, p a' b' c' e' 0 (u64 a') rfl, p a' b' c' e' 1 (u64 b') rfl, p a' b' c' e' 2 (u64 c') rfl, p a' b' c' e' 3 (u64 e') rfl, q0, q1, q2, q3, Result.andThen_ok, Nat.zero_mul, Nat.one_mul, Nat.mul_one, Nat.reduceMul, Bool.not_true, Bool.not_false, if_true, if_false, r, Bool.false_eq_true, Bool.and_true, Bool.and_false, Bool.true_and, Bool.false_and]
theorem eqE4 {T : Nat → AV} {x y : Operand} {ty' : TypeId} {a b c e a' b' c' e' : Nat} (hx : ev T x = .o (.v (E4 a b c e))) (hy : ev T y = .o (.v (E4 a' b' c' e'))) :
    pureOp Try.prog T (.binOp .eql 24 x y ty') (.bool (a == a' && b == b' && c == c' && e == e')) := by
  intro o f w ho hf _
  have e1 := hf x (by simp [Op.operands]) _ hx
  have e2 := hf y (by simp [Op.operands]) _ hy
  have g : (eqGuard .eql 24 x y (E4 a b c e) (E4 a' b' c' e')).run Try.prog w = .ok () w := run_eqGuard_agg w .eql _ x y _ _ gd24
  have h : (binOp .eql 24 (E4 a b c e) (E4 a' b' c' e')).run Try.prog w = _ := run_eql_struct w _ _ _
  have h9 := run_eqElem w 9998 a b c e a' b' c' e'
  unfold E4 at h9 h
  rw [h9] at h
  simp only [execOp, ho, e1, e2, Sem.run_bind, g, Result.andThen_ok]
  unfold E4
  rw [h]
  rfl
theorem neE4 {T : Nat → AV} {x y : Operand} {ty' : TypeId} {a b c e a' b' c' e' : Nat} (hx : ev T x = .o (.v (E4 a b c e))) (hy : ev T y = .o (.v (E4 a' b' c' e'))) :
    pureOp Try.prog T (.binOp .neq 24 x y ty') (.bool (!(a == a' && b == b' && c == c' && e == e'))) := by
  intro o f w ho hf _
  have e1 := hf x (by simp [Op.operands]) _ hx
  have e2 := hf y (by simp [Op.operands]) _ hy
  have g : (eqGuard .neq 24 x y (E4 a b c e) (E4 a' b' c' e')).run Try.prog w = .ok () w := run_eqGuard_agg w .neq _ x y _ _ gd24
  have h : (binOp .neq 24 (E4 a b c e) (E4 a' b' c' e')).run Try.prog w = _ := run_neq_struct w _ _ _
  have h9 := run_eqElem w 9998 a b c e a' b' c' e'
  unfold E4 at h9 h
  rw [h9] at h
  simp only [execOp, ho, e1, e2, Sem.run_bind, g, Result.andThen_ok]
  unfold E4
  rw [h]
  rfl
theorem limbs_eq {a b : Nat} (ha : a < W256) (hb : b < W256) : (L0 a == L0 b && L1 a == L1 b && L2 a == L2 b && L3 a == L3 b) = (a == b) := by
  rw [Bool.eq_iff_iff]
  simp only [Bool.and_eq_true, beq_iff_eq]
  rw [← EN_inj ha hb]
  constructor
  · rintro ⟨⟨⟨h0, h1⟩, h2⟩, h3⟩; exact ⟨h0, h1, h2, h3⟩
  · rintro ⟨h0, h1, h2, h3⟩; exact ⟨⟨⟨h0, h1⟩, h2⟩, h3⟩
section
variable {Q : St → Prop} {n : Nat} {dr : Bool} {all rest : List Oper} {k : List Frm} {st : St} {d : Option Nat}
theorem XEq {x y : Operand} {ty' : TypeId} (a b : Nat) (ha : a < W256) (hb : b < W256) (hx : ev st.T x = .o (.v (EN a))) (hy : ev st.T y = .o (.v (EN b)))
    (h : vcx Try.prog Q n (.ops dr all rest :: k) (st.put d (val (.bool (a == b))))) : ExVC Try.prog Q n dr all rest k st d (pureOp Try.prog st.T (.binOp .eql 24 x y ty')) :=
  ExVC.intro _ (eqE4 hx hy) (by rw [← limbs_eq ha hb] at h; exact h)
theorem XNe {x y : Operand} {ty' : TypeId} (a b : Nat) (ha : a < W256) (hb : b < W256) (hx : ev st.T x = .o (.v (EN a))) (hy : ev st.T y = .o (.v (EN b)))
    (h : vcx Try.prog Q n (.ops dr all rest :: k) (st.put d (val (.bool (a != b))))) : ExVC Try.prog Q n dr all rest k st d (pureOp Try.prog st.T (.binOp .neq 24 x y ty')) :=
  ExVC.intro _ (neE4 hx hy) (by rw [bne, ← limbs_eq ha hb] at h; exact h)
end
end Go.Sx
