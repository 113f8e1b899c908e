/-
  Elements of a slice that is known by its value, read where the facts say what it shows: in drawn regions too. No conditions.
-/
import Derived.Test.YtgeliidjmefkgaaZFae
import Derived.Test.YtgeliidjmefkgaaZFieldA
namespace Go.Sx
section
variable {P : Program}
/-- The address of an element. -/
def ixv (size : Nat) : Value → Nat → Value
  | .slice (some a) _ _, j => .pointer (some (a.add (j * size)))
  | v, _ => v
theorem X_fidx {T : Nat → AV} {M : MemF} {ty : TypeId} {x i : Operand} {y : Value} {n size size' j : Nat} {xs : List Value} {w0 : World} (hs : slI P ty = some size) (hx : ev T x = .o (.v y)) (hi : ev T i = .o (.v (.int .i64 (j : Int)))) (hy : ReadsSlice w0 y n size' xs) (hj : j < n) :
    factOp P T M (.indexAddr ty x i) (ixv size y j) := by
  obtain ⟨a, c, rfl, hc⟩ := reads_addr hy (by omega)
  intro o f w ho hf _ _
  have e1 := hf x (by simp [Op.operands]) _ hx
  have e2 := hf i (by simp [Op.operands]) _ hi
  obtain ⟨e, hu, hsz⟩ := slI_spec hs
  simp [execOp, ho, Instr.indexAt, asIntOf, run_underlying hu, e1, e2, run_sizeOf' hsz, hj, ixv]
theorem X_fload {T : Nat → AV} {M : MemF} {ty : TypeId} {x : Operand} {y : Value} {n sz j : Nat} {xs : List Value} (hsz : tsz P ty = some sz) (hg : aggT P ty = some true) (hx : ev T x = .o (.v (ixv sz y j))) (hM : ents M false fun w => ReadsSlice w y n sz xs) (hj : j < n) (hs : 0 < sz) :
    factOp P T M (.load ty x) (.agg ((xs.drop (j * sz)).take sz).toArray) := by
  intro o f w ho hf _ hfa
  have hr := hM w fun k r F hk _ => hfa k r F hk
  have e1 := hf x (by simp [Op.operands]) _ hx
  obtain ⟨a, c, rfl, hc⟩ := reads_addr hr (by omega)
  obtain ⟨o', cap, hy, hle, hl, hnil, hone, hrd⟩ := hr
  have hne : xs ≠ [] := by
    intro e; rw [e] at hl
    have : 0 < n * sz := Nat.mul_pos (by omega) hs
    simp at hl; omega
  obtain ⟨a', ha, hcell⟩ := hrd hne
  simp only [Value.slice.injEq] at hy
  obtain ⟨rfl, _, _⟩ := hy
  simp only [Option.some.injEq] at ha
  subst ha
  have hlen : ((xs.drop (j * sz)).take sz).length = sz := by
    have : j * sz + sz ≤ n * sz := by rw [← Nat.succ_mul]; exact Nat.mul_le_mul_right _ hj
    simp; omega
  have hld := run_loadCells_list (P := P) w (a.add (j * sz)) ((xs.drop (j * sz)).take sz) (fun t v ht => by
    rw [addr_add_add]
    refine hcell (j * sz + t) v ?_
    rw [List.getElem?_take] at ht
    split at ht
    · rwa [List.getElem?_drop] at ht
    · cases ht)
  rw [hlen] at hld
  simp [execOp, ho, e1, ixv, Instr.loadAt, Instr.sureAddr, loadVar, run_isAgg' hg, run_sizeOf' hsz, hld]
theorem X_floadE {T : Nat → AV} {M : MemF} {ty : TypeId} {x : Operand} {y : Value} {n j : Nat} {l : List Nat} (hsz : tsz P ty = some 4) (hg : aggT P ty = some true) (hx : ev T x = .o (.v (ixv 4 y j))) (hM : ents M false fun w => ReadsSlice w y n 4 (LC eC l)) (hn : l.length = n) (hj : j < n) :
    factOp P T M (.load ty x) (EN (l.getD j 0)) := by
  have := X_fload hsz hg hx hM hj (by decide)
  rwa [eL_ld (by omega)] at this
theorem RawVC.idx {Q : St → Prop} {n1 : Nat} {dr : Md} {all rest : List Oper} {kk : List Frm} {st : St} {d : Option Nat} {ty : TypeId} {x i : Operand} {y : Value} {n size size' j : Nat} {xs : List Value} {w0 : World} (hy : ReadsSlice w0 y n size' xs) (hj : j < n)
    (hx : ev st.T x = .o (.v y)) (hi : ev st.T i = .o (.v (.int .i64 (j : Int)))) (hs : slI P ty = some size) (hv : vcx P Q n1 (.ops dr all rest :: kk) (st.put d (val (ixv size y j)))) : RawVC P Q n1 dr all rest kk st d (.indexAddr ty x i) :=
  .f _ (X_fidx hs hx hi hy hj) hv
theorem RawVC.ldE {Q : St → Prop} {n1 : Nat} {dr : Md} {all rest : List Oper} {kk : List Frm} {st : St} {d : Option Nat} {ty : TypeId} {x : Operand} {y : Value} {n j : Nat} {l : List Nat} (hM : ents st.m.get false fun w => ReadsSlice w y n 4 (LC eC l)) (hn : l.length = n) (hj : j < n)
    (hx : ev st.T x = .o (.v (ixv 4 y j))) (hsz : tsz P ty = some 4) (hg : aggT P ty = some true) (hv : vcx P Q n1 (.ops dr all rest :: kk) (st.put d (val (EN (l.getD j 0))))) : RawVC P Q n1 dr all rest kk st d (.load ty x) :=
  .f _ (X_floadE hsz hg hx hM hn hj) hv
end
end Go.Sx
