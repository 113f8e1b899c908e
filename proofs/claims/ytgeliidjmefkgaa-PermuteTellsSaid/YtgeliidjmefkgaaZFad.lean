/-
  Slices known by their value alone: cut from 1 on. No conditions.
-/
import Derived.Test.YtgeliidjmefkgaaZFac
namespace Go.Sx
section
variable {P : Program}
theorem RawOp.ex {st : St} {op : Op} {d : Option Nat} {ks : St → Prop} {z : Value} (hS : pureOp P st.T op z) (hop : (∃ ty x lo hi mx, op = .slice ty x lo hi mx) ∨ ∃ ty x i, op = .indexAddr ty x i) (h : ks (st.put d (val z))) : RawOp P st op d ks := by
  rintro o rfl rfl r g ρ a w K Q ⟨w0, hx, hs, hid⟩ hK
  have hrun := hS o a.eval w rfl (fun x _ y hy => hs.evv hy) (fun f => rfl)
  refine oper_in r (by rcases hop with ⟨_, _, _, _, _, h⟩ | ⟨_, _, _, h⟩ <;> (rw [h]; intro c h'; cases h')) ?_
  unfold Oper.wp
  rw [hrun, Oper.upon_value]
  exact hK ρ _ _ w ⟨w0, hx, hs.put' hid (fun _ _ => rfl) (fun k e he => by cases he) (by rw [val, applyM_nil]; exact hs.mem) hs.below (by rw [val, applyM_nil]; exact rfl)⟩ h
theorem plain_s {k o n : Nat} : plain (.o (.s k o n)) = none := rfl
theorem plain_r {k n : Nat} : plain (.o (.r k n)) = none := rfl
theorem plain_p {k o : Nat} : plain (.o (.p k o)) = none := rfl
theorem RawVC.ex {Q : St → Prop} {n1 : Nat} {all rest : List Oper} {kk : List Frm} {st : St} {d : Option Nat} {op : Op} (z : Value) (hS : pureOp P st.T op z) (hop : (∃ ty x lo hi mx, op = .slice ty x lo hi mx) ∨ ∃ ty x i, op = .indexAddr ty x i) (h : vcx P Q n1 (.ops .plain all rest :: kk) (st.put d (val z))) : RawVC P Q n1 .plain all rest kk st d op := .intro rfl (RawOp.ex hS hop h)
/-- All but the first. -/
def suf (size : Nat) : Value → Value
  | .slice (some a) n c => .slice (if c = 1 then some a else some (a.add size)) (n - 1) (c - 1)
  | v => v
theorem X_suf {T : Nat → AV} {x : Operand} {ty : TypeId} {y : Value} {a : Addr} {n c size : Nat} (hs : slI P ty = some size) (hx : ev T x = .o (.v y)) (hy : y = .slice (some a) n c) (h1 : 1 ≤ n) (h2 : n ≤ c) :
    pureOp P T (.slice ty x (some (.const (.int .i64 1))) none none) (suf size y) := by
  intro o f w ho hf _
  have e1 := hf x (by simp [Op.operands]) _ hx
  have e2 := hf (.const (.int .i64 1)) (by simp [Op.operands]) (.int .i64 1) rfl
  obtain ⟨e, hu, hsz⟩ := slI_spec hs
  subst hy
  have hb : (Instr.sliceBounds true n c (some (Value.int .i64 1)) none none).run P w = .ok (1, n, c) w := by
    simp [Instr.sliceBounds, Instr.sliceBound, asIntOf, h1]
    omega
  simp [execOp, ho, Instr.sliceAt, Instr.slice, run_underlying hu, e1, e2, run_sizeOf' hsz, hb, suf]
theorem reads_suf {w : World} {y : Value} {n size : Nat} {xs : List Value} (h : ReadsSlice w y (n + 1) size xs) : ReadsSlice w (suf size y) n size (xs.drop size) := by
  obtain ⟨o, cap, rfl, hle, hl, hnil, hone, hr⟩ := h
  cases o with
  | none => have := hnil rfl; omega
  | some a =>
    refine ⟨if cap = 1 then some a else some (a.add size), cap - 1, rfl, by omega, by rw [List.length_drop, hl, Nat.add_mul, Nat.one_mul]; omega, ?_, fun u hu => hone u (List.mem_of_mem_drop hu), fun hne => ?_⟩
    · intro h0; split at h0 <;> cases h0
    have hn : cap ≠ 1 := by
      intro e
      have : n = 0 := by omega
      subst this
      rw [Nat.zero_add, Nat.one_mul] at hl
      exact hne (List.drop_eq_nil_of_le (by omega))
    rw [if_neg hn]
    refine ⟨_, rfl, fun j u hj => ?_⟩
    have hx : xs ≠ [] := by intro e; subst e; simp at hj
    obtain ⟨a', ha, hc⟩ := hr hx
    cases ha
    rw [addr_add_add]
    rw [List.getElem?_drop] at hj
    exact hc _ u hj
/-- j of them cut off. -/
def sufs (size : Nat) : Nat → Value → Value
  | 0, y => y
  | j + 1, y => suf size (sufs size j y)
theorem reads_sufs {w : World} {y : Value} {size : Nat} : ∀ (j : Nat) {n : Nat} {xs : List Value}, ReadsSlice w y (n + j) size xs → ReadsSlice w (sufs size j y) n size (xs.drop (j * size))
  | 0, n, xs, h => by simpa [sufs] using h
  | j + 1, n, xs, h => by
    have h1 := reads_sufs j (n := n + 1) (xs := xs) (by rw [Nat.add_assoc, Nat.add_comm 1 j]; exact h)
    have h2 := reads_suf h1
    rw [List.drop_drop] at h2
    rw [Nat.add_mul, Nat.one_mul]
    exact h2
/-- A slice that has one at least has an address. -/
theorem reads_addr {w : World} {y : Value} {n size : Nat} {xs : List Value} (h : ReadsSlice w y n size xs) (hn : 0 < n) : ∃ a c, y = .slice (some a) n c ∧ n ≤ c := by
  obtain ⟨o, cap, rfl, hle, _, hnil, _⟩ := h
  cases o with
  | none => have := hnil rfl; omega
  | some a => exact ⟨a, cap, rfl, hle⟩
end
end Go.Sx
