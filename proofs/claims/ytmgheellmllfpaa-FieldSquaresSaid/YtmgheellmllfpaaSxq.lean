/-
  Words of 64 bits as natural numbers, in the machine. No conditions.
-/
import Derived.Test.YtmgheellmllfpaaSxp
namespace Go.Sx
section
variable {P : Program} {Q : St → Prop}

def u64 (n : Nat) : Value := .int .u64 (n : Int)
theorem cellsU (n : Nat) : (u64 n).cells = #[u64 n] := rfl
theorem oneU (n : Nat) : (u64 n).oneCell' = true := rfl
theorem oneI (k : IntKind) (n : Int) : (Value.int k n).oneCell' = true := rfl
theorem oneB (b : Bool) : (Value.bool b).oneCell' = true := rfl
theorem cellsI (k : IntKind) (n : Int) : (Value.int k n).cells = #[Value.int k n] := rfl
theorem cellsB (b : Bool) : (Value.bool b).cells = #[Value.bool b] := rfl
theorem i0 : Value.int .u64 0 = u64 0 := rfl
theorem i1 : Value.int .u64 1 = u64 1 := rfl
theorem wr1 : IntKind.i64.wrap 1 = 1 := by decide
theorem wr2 : IntKind.i64.wrap 2 = 2 := by decide
theorem wr3 : IntKind.i64.wrap 3 = 3 := by decide
theorem wr4 : IntKind.i64.wrap 4 = 4 := by decide
theorem wrap_u64 (n : Int) : IntKind.u64.wrap n = n % 18446744073709551616 := IntKind.wrap_u64 n

/-- What a shift multiplies or divides by. -/
def sh (q : Nat) : Nat := 2 ^ min q 64
theorem sh_0 : sh 0 = 1 := rfl
theorem sh_1 : sh 1 = 2 := rfl
theorem sh_8 : sh 8 = 256 := rfl
theorem sh_16 : sh 16 = 65536 := rfl
theorem sh_24 : sh 24 = 16777216 := rfl
theorem sh_32 : sh 32 = 4294967296 := rfl
theorem sh_40 : sh 40 = 1099511627776 := rfl
theorem sh_48 : sh 48 = 281474976710656 := rfl
theorem sh_56 : sh 56 = 72057594037927936 := rfl
theorem sh_63 : sh 63 = 9223372036854775808 := rfl
/-! The operations are sealed, so that the kernel does not unfold them. -/
theorem uadd_ex : ∃ g : Nat → Nat → Nat, ∀ a b, g a b = (a + b) % 18446744073709551616 := ⟨fun a b => (a + b) % 18446744073709551616, fun _ _ => rfl⟩
noncomputable def uadd : Nat → Nat → Nat := Classical.choose uadd_ex
theorem uadd_eq (a b : Nat) : uadd a b = (a + b) % 18446744073709551616 := Classical.choose_spec uadd_ex a b
theorem usub_ex : ∃ g : Nat → Nat → Nat, ∀ a b, g a b = (a + (18446744073709551616 - b % 18446744073709551616)) % 18446744073709551616 := ⟨fun a b => (a + (18446744073709551616 - b % 18446744073709551616)) % 18446744073709551616, fun _ _ => rfl⟩
noncomputable def usub : Nat → Nat → Nat := Classical.choose usub_ex
theorem usub_eq (a b : Nat) : usub a b = (a + (18446744073709551616 - b % 18446744073709551616)) % 18446744073709551616 := Classical.choose_spec usub_ex a b
theorem umul_ex : ∃ g : Nat → Nat → Nat, ∀ a b, g a b = a * b % 18446744073709551616 := ⟨fun a b => a * b % 18446744073709551616, fun _ _ => rfl⟩
noncomputable def umul : Nat → Nat → Nat := Classical.choose umul_ex
theorem umul_eq (a b : Nat) : umul a b = a * b % 18446744073709551616 := Classical.choose_spec umul_ex a b
theorem uquo_ex : ∃ g : Nat → Nat → Nat, ∀ a b, g a b = a / b % 18446744073709551616 := ⟨fun a b => a / b % 18446744073709551616, fun _ _ => rfl⟩
noncomputable def uquo : Nat → Nat → Nat := Classical.choose uquo_ex
theorem uquo_eq (a b : Nat) : uquo a b = a / b % 18446744073709551616 := Classical.choose_spec uquo_ex a b
theorem urem_ex : ∃ g : Nat → Nat → Nat, ∀ a b, g a b = a % b := ⟨fun a b => a % b, fun _ _ => rfl⟩
noncomputable def urem : Nat → Nat → Nat := Classical.choose urem_ex
theorem urem_eq (a b : Nat) : urem a b = a % b := Classical.choose_spec urem_ex a b
theorem ushl_ex : ∃ g : Nat → Nat → Nat, ∀ a b, g a b = a * sh b % 18446744073709551616 := ⟨fun a b => a * sh b % 18446744073709551616, fun _ _ => rfl⟩
noncomputable def ushl : Nat → Nat → Nat := Classical.choose ushl_ex
theorem ushl_eq (a b : Nat) : ushl a b = a * sh b % 18446744073709551616 := Classical.choose_spec ushl_ex a b
theorem ushr_ex : ∃ g : Nat → Nat → Nat, ∀ a b, g a b = a / sh b := ⟨fun a b => a / sh b, fun _ _ => rfl⟩
noncomputable def ushr : Nat → Nat → Nat := Classical.choose ushr_ex
theorem ushr_eq (a b : Nat) : ushr a b = a / sh b := Classical.choose_spec ushr_ex a b
theorem uand_ex : ∃ g : Nat → Nat → Nat, ∀ a b, g a b = a % 18446744073709551616 &&& b % 18446744073709551616 := ⟨fun a b => a % 18446744073709551616 &&& b % 18446744073709551616, fun _ _ => rfl⟩
noncomputable def uand : Nat → Nat → Nat := Classical.choose uand_ex
theorem uand_eq (a b : Nat) : uand a b = a % 18446744073709551616 &&& b % 18446744073709551616 := Classical.choose_spec uand_ex a b
theorem uor_ex : ∃ g : Nat → Nat → Nat, ∀ a b, g a b = a % 18446744073709551616 ||| b % 18446744073709551616 := ⟨fun a b => a % 18446744073709551616 ||| b % 18446744073709551616, fun _ _ => rfl⟩
noncomputable def uor : Nat → Nat → Nat := Classical.choose uor_ex
theorem uor_eq (a b : Nat) : uor a b = a % 18446744073709551616 ||| b % 18446744073709551616 := Classical.choose_spec uor_ex a b
variable {T : Nat → AV} {ty ty' : TypeId} {x y : Operand} {k k' : IntKind} {p q : Int} {a b : Nat}
theorem b_ii {bop : BinOp} : binOn P T bop ty x y ty' (.o (.v (.int k p))) (.o (.v (.int k' q))) = binEff bop k p k' q (.ex (pureOp P T (.binOp bop ty x y ty'))) := rfl
theorem b_ui {bop : BinOp} : binOn P T bop ty x y ty' (.o (.v (u64 a))) (.o (.v (.int k' q))) = binEff bop .u64 a k' q (.ex (pureOp P T (.binOp bop ty x y ty'))) := rfl
theorem b_iu {bop : BinOp} : binOn P T bop ty x y ty' (.o (.v (.int k p))) (.o (.v (u64 b))) = binEff bop k p .u64 b (.ex (pureOp P T (.binOp bop ty x y ty'))) := rfl
theorem b_add : binOn P T .add ty x y ty' (.o (.v (u64 a))) (.o (.v (u64 b))) = .ok True (val (u64 (uadd a b))) := by
  show Eff.ok _ _ = _
  simp only [wrap_u64]
  refine congr (congrArg _ (by simp)) ?_
  rw [uadd_eq]
  unfold u64
  congr 2
theorem b_mul : binOn P T .mul ty x y ty' (.o (.v (u64 a))) (.o (.v (u64 b))) = .ok True (val (u64 (umul a b))) := by
  show Eff.ok _ _ = _
  refine congr (congrArg _ (by simp)) ?_
  simp only [wrap_u64]
  rw [umul_eq]
  unfold u64
  congr 2
theorem usub_of {a b : Nat} (ha : a < 18446744073709551616) (h : b ≤ a) : usub a b = a - b := by rw [usub_eq]; omega
theorem b_sub : binOn P T .sub ty x y ty' (.o (.v (u64 a))) (.o (.v (u64 b))) = .ok True (val (u64 (usub a b))) := by
  show Eff.ok _ _ = _
  refine congr (congrArg _ (by simp)) ?_
  simp only [wrap_u64]
  rw [usub_eq]
  unfold u64
  congr 2
  omega
theorem b_eql : binOn P T .eql ty x y ty' (.o (.v (u64 a))) (.o (.v (u64 b))) = .ok True (val (.bool (a == b))) := by
  show Eff.ok _ _ = _
  refine congr (congrArg _ (by simp)) ?_
  have : ((a : Int) == (b : Int)) = (a == b) := by rw [Bool.eq_iff_iff]; simp; omega
  rw [this]
theorem b_neq : binOn P T .neq ty x y ty' (.o (.v (u64 a))) (.o (.v (u64 b))) = .ok True (val (.bool (a != b))) := by
  show Eff.ok _ _ = _
  refine congr (congrArg _ (by simp)) ?_
  have : ((a : Int) != (b : Int)) = (a != b) := by rw [Bool.eq_iff_iff]; simp; omega
  rw [this]
theorem b_lss : binOn P T .lss ty x y ty' (.o (.v (u64 a))) (.o (.v (u64 b))) = .ok True (val (.bool (decide (a < b)))) := by
  show Eff.ok _ _ = _
  refine congr (congrArg _ (by simp)) ?_
  have : decide ((a : Int) < (b : Int)) = decide (a < b) := by rw [Bool.eq_iff_iff]; simp
  rw [this]
theorem b_leq : binOn P T .leq ty x y ty' (.o (.v (u64 a))) (.o (.v (u64 b))) = .ok True (val (.bool (decide (a ≤ b)))) := by
  show Eff.ok _ _ = _
  refine congr (congrArg _ (by simp)) ?_
  have : decide ((a : Int) ≤ (b : Int)) = decide (a ≤ b) := by rw [Bool.eq_iff_iff]; simp
  rw [this]
theorem b_gtr : binOn P T .gtr ty x y ty' (.o (.v (u64 a))) (.o (.v (u64 b))) = .ok True (val (.bool (decide (b < a)))) := by
  show Eff.ok _ _ = _
  refine congr (congrArg _ (by simp)) ?_
  have : decide ((b : Int) < (a : Int)) = decide (b < a) := by rw [Bool.eq_iff_iff]; simp
  rw [this]
theorem b_geq : binOn P T .geq ty x y ty' (.o (.v (u64 a))) (.o (.v (u64 b))) = .ok True (val (.bool (decide (b ≤ a)))) := by
  show Eff.ok _ _ = _
  refine congr (congrArg _ (by simp)) ?_
  have : decide ((b : Int) ≤ (a : Int)) = decide (b ≤ a) := by rw [Bool.eq_iff_iff]; simp
  rw [this]
theorem b_quo : binOn P T .quo ty x y ty' (.o (.v (u64 a))) (.o (.v (u64 b))) = .ok (b ≠ 0) (val (u64 (uquo a b))) := by
  rw [uquo_eq]
  show Eff.ok _ _ = _
  refine congr (congrArg _ (by simp)) ?_
  simp only [wrap_u64]
  unfold u64
  congr 2
theorem b_rem : binOn P T .rem ty x y ty' (.o (.v (u64 a))) (.o (.v (u64 b))) = .ok (b ≠ 0) (val (u64 (urem a b))) := by
  rw [urem_eq]
  show Eff.ok _ _ = _
  refine congr (congrArg _ (by simp)) ?_
  unfold u64
  congr 2
theorem b_shr {q : Int} : binOn P T .shr ty x y ty' (.o (.v (u64 a))) (.o (.v (.int k' q))) = .ok (0 ≤ q) (val (u64 (ushr a q.toNat))) := by
  rw [ushr_eq]
  show Eff.ok _ _ = _
  refine congr (congrArg _ rfl) ?_
  unfold u64 sh
  congr 2
  rw [Int.fdiv_eq_ediv_of_nonneg _ (Int.pow_nonneg (by decide))]
  show (a : Int) / (2 : Int) ^ (min q.toNat 64) = _
  simp
theorem b_shl {q : Int} : binOn P T .shl ty x y ty' (.o (.v (u64 a))) (.o (.v (.int k' q))) = .ok (0 ≤ q) (val (u64 (ushl a q.toNat))) := by
  rw [ushl_eq]
  show Eff.ok _ _ = _
  refine congr (congrArg _ rfl) ?_
  simp only [wrap_u64]
  unfold u64 sh
  rw [Int.natCast_emod, Int.natCast_mul, Int.natCast_pow]
  congr 2
theorem b_shr_u : binOn P T .shr ty x y ty' (.o (.v (u64 a))) (.o (.v (u64 b))) = .ok True (val (u64 (ushr a b))) := by
  show binOn P T .shr ty x y ty' (.o (.v (u64 a))) (.o (.v (.int .u64 (b : Int)))) = _
  rw [b_shr]
  simp
theorem b_shl_u : binOn P T .shl ty x y ty' (.o (.v (u64 a))) (.o (.v (u64 b))) = .ok True (val (u64 (ushl a b))) := by
  show binOn P T .shl ty x y ty' (.o (.v (u64 a))) (.o (.v (.int .u64 (b : Int)))) = _
  rw [b_shl]
  simp
theorem bits_nat (f : BitVec 64 → BitVec 64 → BitVec 64) (g : Nat → Nat → Nat) (hf : ∀ u v, (f u v).toNat = g u.toNat v.toNat) (a b : Nat) :
    IntKind.u64.wrap ((f (BitVec.ofInt 64 (a : Int)) (BitVec.ofInt 64 (b : Int))).toNat : Int) = (g (a % 18446744073709551616) (b % 18446744073709551616) : Int) := by
  have h1 : (BitVec.ofInt 64 (a : Int)).toNat = a % 18446744073709551616 := by simp
  have h2 : (BitVec.ofInt 64 (b : Int)).toNat = b % 18446744073709551616 := by simp
  have h3 := hf (BitVec.ofInt 64 (a : Int)) (BitVec.ofInt 64 (b : Int))
  have h4 := (f (BitVec.ofInt 64 (a : Int)) (BitVec.ofInt 64 (b : Int))).isLt
  rw [h1, h2] at h3
  rw [wrap_u64, h3] 
  omega
theorem b_and : binOn P T .and ty x y ty' (.o (.v (u64 a))) (.o (.v (u64 b))) = .ok True (val (u64 (uand a b))) := by
  rw [uand_eq]
  show Eff.ok _ _ = _
  refine congr (congrArg _ (by simp)) ?_
  unfold u64
  congr 3
  exact bits_nat (fun u v => u &&& v) (fun u v => u &&& v) (fun u v => BitVec.toNat_and u v) a b
theorem b_or : binOn P T .or ty x y ty' (.o (.v (u64 a))) (.o (.v (u64 b))) = .ok True (val (u64 (uor a b))) := by
  rw [uor_eq]
  show Eff.ok _ _ = _
  refine congr (congrArg _ (by simp)) ?_
  unfold u64
  congr 3
  exact bits_nat (fun u v => u ||| v) (fun u v => u ||| v) (fun u v => BitVec.toNat_or u v) a b
theorem uand_mask (a k m : Nat) (hm : m = 2 ^ k - 1) (hk : k ≤ 64) : uand a m = a % 2 ^ k := by
  subst hm
  rw [uand_eq]
  have h2 : 2 ^ k ≤ 2 ^ 64 := Nat.pow_le_pow_right (by decide) hk
  have h0 : 0 < 2 ^ k := Nat.pow_pos (by decide)
  rw [Nat.mod_eq_of_lt (a := 2 ^ k - 1) (by omega), Nat.and_two_pow_sub_one_eq_mod]
  exact Nat.mod_mod_of_dvd a (Nat.pow_dvd_pow 2 hk)
theorem uand32 (a : Nat) : uand a 4294967295 = a % 4294967296 := uand_mask a 32 _ rfl (by decide)
theorem uand1 (a : Nat) : uand a 1 = a % 2 := uand_mask a 1 _ rfl (by decide)
/-- A sum of bits that do not meet. -/
theorem uor_add (a b k : Nat) (ha : a < 2 ^ k) (hb : 2 ^ k ∣ b) (h : a + b < 18446744073709551616) : uor a b = a + b := by
  rw [uor_eq]
  obtain ⟨c, rfl⟩ := hb
  rw [Nat.mod_eq_of_lt (by omega), Nat.mod_eq_of_lt (by omega), Nat.or_comm, Nat.mul_comm, ← Nat.shiftLeft_eq, ← Nat.shiftLeft_add_eq_or_of_lt ha, Nat.add_comm]
theorem uor_add' (a b k : Nat) (ha : a < 2 ^ k) (hb : 2 ^ k ∣ b) (h : a + b < 18446744073709551616) : uor b a = a + b := by
  rw [← uor_add a b k ha hb h]
  rw [uor_eq, uor_eq]
  rw [Nat.or_comm]
theorem uor_addK (a b k K : Nat) (hK : K = 2 ^ k) (ha : a < K) (hb : K ∣ b) (h : a + b < 18446744073709551616) : uor a b = a + b ∧ uor b a = a + b := by
  subst hK
  exact ⟨uor_add a b k ha hb h, uor_add' a b k ha hb h⟩
theorem uor_zero (a b : Nat) (ha : a < 18446744073709551616) (hb : b < 18446744073709551616) : uor a b = 0 ↔ a = 0 ∧ b = 0 := by
  rw [uor_eq]
  rw [Nat.mod_eq_of_lt ha, Nat.mod_eq_of_lt hb, Nat.or_eq_zero_iff]
theorem uor_lt (a b : Nat) : uor a b < 18446744073709551616 := by
  rw [uor_eq]
  exact Nat.or_lt_two_pow (n := 64) (Nat.mod_lt _ (by decide)) (Nat.mod_lt _ (by decide))

theorem uadd_lt (a b : Nat) : uadd a b < 18446744073709551616 := by rw [uadd_eq]; exact Nat.mod_lt _ (by decide)
theorem usub_lt (a b : Nat) : usub a b < 18446744073709551616 := by rw [usub_eq]; exact Nat.mod_lt _ (by decide)
theorem umul_lt (a b : Nat) : umul a b < 18446744073709551616 := by rw [umul_eq]; exact Nat.mod_lt _ (by decide)
theorem umul_zero (a : Nat) : umul a 0 = 0 := by rw [umul_eq]; rfl
theorem uadd_zero {a : Nat} (h : a < 18446744073709551616) : uadd a 0 = a := by rw [uadd_eq]; omega

/-! ### parts put together, parts compared -/
theorem plains_eval {T : Nat → AV} {a : Operand → Value} : ∀ {parts : List (Nat × Operand)} {ps : List (Nat × Value)}, plains T parts = some ps → (∀ x ∈ parts.map (·.2), ∀ y, ev T x = .o (.v y) → a x = y) → parts.map (fun p => (p.1, a p.2)) = ps
  | [], ps, h, _ => by simp only [plains, Option.some.injEq] at h; subst h; rfl
  | (i, x) :: l, ps, h, ha => by
    simp only [plains] at h
    split at h
    · rename_i y ys hy hys
      simp only [Option.some.injEq] at h
      subst h
      have : ev T x = .o (.v y) := by
        unfold plain at hy
        split at hy
        · rename_i h1; rw [h1]; simp only [Option.some.injEq] at hy; rw [hy]
        · cases hy
      rw [List.map_cons, plains_eval hys (fun x hx => ha x (by simp only [List.map_cons, List.mem_cons]; exact .inr hx)), ha x (by simp) y this]
    · cases h
theorem bldG {t : TypeId} {parts : Array (Nat × Operand)} {ps : List (Nat × Value)} {cells : Array Value} (h1 : plains T parts.toList = some ps) (h2 : P.built t ps = some cells) : pureOp P T (.build t parts) (.agg cells) := by
  intro o f w ho hf _
  have h3 : (parts.map fun p => (p.1, f p.2)).toList = ps := by
    rw [Array.toList_map]
    refine plains_eval h1 fun x hx y hy => hf x ?_ y hy
    simp only [Op.operands]
    simpa using hx
  have h4 := run_build (P := P) w t (parts.map fun p => (p.1, f p.2)) cells (by rw [h3]; exact h2)
  simp [execOp, ho]
  rw [show (fun x : Nat × Operand => (x.1, f x.2)) = fun p => (p.1, f p.2) from rfl, h4]
  simp
theorem ExVC.build {n dr all rest k st d} {t : TypeId} {parts : Array (Nat × Operand)} (ps : List (Nat × Value)) (z : Value) (cells : Array Value) (h1 : plains st.T parts.toList = some ps) (h2 : P.built t ps = some cells) (hz : .agg cells = z)
    (h : vcx P Q n (.ops dr all rest :: k) (st.put d (val z))) : ExVC P Q n dr all rest k st d (pureOp P st.T (.build t parts)) := ⟨z, hz ▸ bldG h1 h2, h⟩

end
end Go.Sx
