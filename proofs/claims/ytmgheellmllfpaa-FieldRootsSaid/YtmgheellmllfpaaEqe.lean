/-
  Two elements compared, as the machine goes on by itself. No conditions.
-/
import Derived.Test.YtmgheellmllfpaaLis
namespace Go.Sx
open Go.Proofs
noncomputable def eqN (a b : Nat) : Bool := hid (fun a b : Nat => L0 a == L0 b && L1 a == L1 b && L2 a == L2 b && L3 a == L3 b) a b
theorem eqN_def {a b : Nat} : eqN a b = (L0 a == L0 b && L1 a == L1 b && L2 a == L2 b && L3 a == L3 b) := by unfold eqN; rw [hid_eq]
theorem eqN_eq {a b : Nat} (ha : a < W256) (hb : b < W256) : eqN a b = (a == b) := by rw [eqN_def, limbs_eq ha hb]
theorem eqN_self {a : Nat} : eqN a a = true := by rw [eqN_def]; simp
theorem EN_limbs {a b : Nat} (h : EN a = EN b) : L0 a = L0 b ∧ L1 a = L1 b ∧ L2 a = L2 b ∧ L3 a = L3 b := by
  have h1 : [u64 (L0 a), u64 (L1 a), u64 (L2 a), u64 (L3 a)] = [u64 (L0 b), u64 (L1 b), u64 (L2 b), u64 (L3 b)] := by
    have := congrArg (fun v => v.cells.toList) h
    simpa only [cellsN] using this
  simp only [u64, List.cons.injEq, Value.int.injEq, true_and, and_true] at h1
  omega
section
variable {Q : St → Prop} {n : Nat} {dr : Bool} {all rest : List Oper} {k : List Frm} {st : St} {d : Option Nat} {T : Nat → AV} {M : MemF} {id : Nat} {x y : Operand} {ty' : TypeId}
open Classical in
noncomputable def elGo (Q : St → Prop) (n : Nat) (dr : Bool) (all rest : List Oper) (k : List Frm) (st : St) (d : Option Nat) (T : Nat → AV) (ng : Bool) (x y : Operand) (ty' : TypeId) (u v : AV) : Prop :=
  if ∃ a b, u = .o (.v (EN a)) ∧ v = .o (.v (EN b)) then ∀ a b, u = .o (.v (EN a)) → v = .o (.v (EN b)) → vcx Try.prog Q n (.ops dr all rest :: k) (st.put d (val (.bool (ng ^^ eqN a b))))
  else goOn Try.prog Q n dr all rest k st d (binOn Try.prog T (if ng then .neq else .eql) 24 x y ty' u v)
theorem el_go {ng : Bool} {a b : Nat} : elGo Q n dr all rest k st d T ng x y ty' (.o (.v (EN a))) (.o (.v (EN b))) = vcx Try.prog Q n (.ops dr all rest :: k) (st.put d (val (.bool (ng ^^ eqN a b)))) := by
  unfold elGo
  rw [if_pos ⟨a, b, rfl, rfl⟩]
  refine propext ⟨fun h => h a b rfl rfl, fun h a' b' ha hb => ?_⟩
  simp only [AV.o.injEq, A0.v.injEq] at ha hb
  obtain ⟨p0, p1, p2, p3⟩ := EN_limbs ha
  obtain ⟨q0, q1, q2, q3⟩ := EN_limbs hb
  have e : eqN a' b' = eqN a b := by rw [eqN_def, eqN_def, p0, p1, p2, p3, q0, q1, q2, q3]
  rw [e]
  exact h
theorem op_eqE : goOn Try.prog Q n dr all rest k st d (opEff Try.prog T M id (.binOp .eql 24 x y ty')) = elGo Q n dr all rest k st d T false x y ty' (ev T x) (ev T y) := by
  rw [show opEff Try.prog T M id (.binOp .eql 24 x y ty') = binOn Try.prog T .eql 24 x y ty' (ev T x) (ev T y) from rfl]
  by_cases h : ∃ a b, ev T x = .o (.v (EN a)) ∧ ev T y = .o (.v (EN b))
  · obtain ⟨a, b, hx, hy⟩ := h
    have hp := eqE4 (ty' := ty') hx hy
    rw [hx, hy, el_go, b_EN, g_ex, ex_one hp, eqN_def, Bool.false_xor]; rfl
  · unfold elGo; rw [if_neg h]; rfl
theorem op_neE : goOn Try.prog Q n dr all rest k st d (opEff Try.prog T M id (.binOp .neq 24 x y ty')) = elGo Q n dr all rest k st d T true x y ty' (ev T x) (ev T y) := by
  rw [show opEff Try.prog T M id (.binOp .neq 24 x y ty') = binOn Try.prog T .neq 24 x y ty' (ev T x) (ev T y) from rfl]
  by_cases h : ∃ a b, ev T x = .o (.v (EN a)) ∧ ev T y = .o (.v (EN b))
  · obtain ⟨a, b, hx, hy⟩ := h
    have hp := neE4 (ty' := ty') hx hy
    rw [hx, hy, el_go, b_EN, g_ex, ex_one hp, eqN_def, Bool.true_xor]; rfl
  · unfold elGo; rw [if_neg h]; rfl
@[congr] theorem elGo_congr {ng : Bool} {st' : St} {u u' v v' : AV} (h : st = st') (h2 : u = u') (h3 : v = v') : elGo Q n dr all rest k st d T ng x y ty' u v = elGo Q n dr all rest k st' d T ng x y ty' u' v' := by rw [h, h2, h3]
end
theorem beq_int {n : Int} : (n == n) = true := by simp
theorem bne_int {n : Int} : (n != n) = false := by simp
theorem beq_list {l : List Nat} : (l == l) = true := by simp
theorem PX : type_of% (And.intro @op_eqE @op_neE) := And.intro @op_eqE @op_neE
/-- Bundles for the walks. -/
theorem EY : type_of% (And.intro (And.intro EX @el_go) (And.intro (And.intro Bool.false_xor Bool.true_xor) (And.intro @EN_small (And.intro (And.intro @eqN_self @wI) (And.intro (And.intro @beq_int @bne_int) (And.intro eC.eq_1 @beq_list)))))) :=
  And.intro (And.intro EX @el_go) (And.intro (And.intro Bool.false_xor Bool.true_xor) (And.intro @EN_small (And.intro (And.intro @eqN_self @wI) (And.intro (And.intro @beq_int @bne_int) (And.intro eC.eq_1 @beq_list)))))
end Go.Sx
