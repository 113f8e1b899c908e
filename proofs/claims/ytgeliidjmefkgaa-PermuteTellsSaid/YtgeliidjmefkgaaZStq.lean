/-
  Structs of elements compared. No conditions.
-/
import Derived.Test.YtgeliidjmefkgaaZFieldA
import Derived.Laws.StructEq
namespace Go.Sx
open Go.Proofs
/-- Lists of elements, compared one by one. -/
noncomputable def eqL : List Nat → List Nat → Bool
  | [], _ => true
  | _ :: _, [] => true
  | a :: l, b :: l' => eqN a b && eqL l l'
theorem eqL_self : ∀ {l : List Nat}, eqL l l = true
  | [] => rfl
  | a :: l => by unfold eqL; rw [eqN_self, eqL_self]; rfl
theorem run_eqEN (w : World) (d a b : Nat) : (Op.equalIn (d + 2) 25 (EN a) (EN b)).run Try.prog w = .ok (eqN a b) w := by
  rw [eqN_def]; exact run_eqElem w d _ _ _ _ _ _ _ _
theorem isAggE (w : World) : (isAgg 25).run Try.prog w = .ok true w := by
  simp [isAgg, run_underlying un24]
theorem run_partE (w : World) {l : List Nat} {i : Nat} (h : i < l.length) : (part 25 (LC eC l).toArray (i * 4)).run Try.prog w = .ok (EN (l.getD i 0)) w := by
  obtain ⟨i0, hi⟩ := info_of_underlying un24
  have co : Try.prog.cellsOf 25 = 4 := by kernel_rfl
  simp only [part, Sem.run_bind, isAggE, Result.andThen_ok, if_true, run_sizeOf w hi, co, Sem.run_pure]
  rw [← eL_ld h, List.extract_toArray, List.extract_eq_take_drop]
  simp
/-- What a struct of elements looks like. -/
def fldsE (fs : List Field) (i n : Nat) : Prop := fs.length + i = n ∧ ∀ j f, fs[j]? = some f → f.type = 25 ∧ f.offset = (i + j) * 4 ∧ f.name ≠ "_"
theorem fldsE_cons {f : Field} {fs : List Field} {i n : Nat} (h : fldsE (f :: fs) i n) : (f.type = 25 ∧ f.offset = i * 4 ∧ f.name ≠ "_") ∧ fldsE fs (i + 1) n := by
  refine ⟨by simpa using h.2 0 f rfl, by have := h.1; simp at this; omega, fun j g hg => ?_⟩
  have := h.2 (j + 1) g (by simpa using hg)
  refine ⟨this.1, ?_, this.2.2⟩
  rw [this.2.1]; congr 1; omega
theorem run_eqFlds (w : World) {l l' : List Nat} (d : Nat) : ∀ (fs : List Field) (i : Nat), fldsE fs i l.length → l'.length = l.length → (Op.eqFields (d + 2) (LC eC l).toArray (LC eC l').toArray fs).run Try.prog w = .ok (eqL (l.drop i) (l'.drop i)) w
  | [], i, h, hl => by
    have : l.length ≤ i := by have := h.1; simp at this; omega
    rw [List.drop_eq_nil_of_le this]
    simp [Op.eqFields, eqL]
  | f :: fs, i, h, hl => by
    obtain ⟨⟨h1, h2, h3⟩, h4⟩ := fldsE_cons h
    have hi : i < l.length := by have := h.1; simp at this; omega
    have e1 : l.drop i = l.getD i 0 :: l.drop (i + 1) := by
      rw [List.drop_eq_getElem_cons hi]; simp [List.getD, hi]
    have e2 : l'.drop i = l'.getD i 0 :: l'.drop (i + 1) := by
      rw [List.drop_eq_getElem_cons (by omega)]; simp [List.getD, show i < l'.length by omega]
    rw [e1, e2]
    unfold Op.eqFields
    simp only [h3, ne_eq, not_false_eq_true, if_true, Sem.run_bind, h1, h2, run_partE w hi, run_partE w (l := l') (i := i) (by omega), run_eqEN, Result.andThen_ok, eqL]
    cases eqN (l.getD i 0) (l'.getD i 0) with
    | false => simp
    | true => simpa using run_eqFlds w d fs (i + 1) h4 hl
theorem run_eqStr (w : World) {t : TypeId} (ht : Try.prog.underlying t = some (.struct (Try.prog.fieldsOf t))) (hp : Try.prog.stoodInHeld t = false) {l l' : List Nat} (hf : fldsE (Try.prog.fieldsOf t).toList 0 l.length) (hl : l'.length = l.length) (d : Nat) :
    (Op.equalIn (d + 3) t (.agg (LC eC l).toArray) (.agg (LC eC l').toArray)).run Try.prog w = .ok (eqL l l') w := by
  rw [run_equalIn_struct w (d + 2) t _ _ ht hp, run_eqFlds w d _ 0 hf hl]
  rfl
theorem X_eqS {t : TypeId} (ht : Try.prog.underlying t = some (.struct (Try.prog.fieldsOf t))) (hp : Try.prog.stoodInHeld t = false) (hm : Try.prog.eqGuardType Try.prog.depth t = false) {l l' : List Nat} (hf : fldsE (Try.prog.fieldsOf t).toList 0 l.length) (hl : l'.length = l.length)
    {T : Nat → AV} {x y : Operand} {ty' : TypeId} (hx : ev T x = .o (.v (.agg (LC eC l).toArray))) (hy : ev T y = .o (.v (.agg (LC eC l').toArray))) :
    pureOp Try.prog T (.binOp .eql t x y ty') (.bool (eqL l l')) := by
  intro o f w ho hf2 _
  have e1 := hf2 x (by simp [Op.operands]) _ hx
  have e2 := hf2 y (by simp [Op.operands]) _ hy
  have g : (eqGuard .eql t x y (.agg (LC eC l).toArray) (.agg (LC eC l').toArray)).run Try.prog w = .ok () w := run_eqGuard_agg w .eql _ x y _ _ hm
  have h : (binOp .eql t (.agg (LC eC l).toArray) (.agg (LC eC l').toArray)).run Try.prog w = _ := run_eql_struct w _ _ _
  have h9 := run_eqStr w ht hp hf hl 9997
  rw [h9] at h
  simp only [execOp, ho, e1, e2, Sem.run_bind, g, Result.andThen_ok]
  rw [h]
  rfl
def fldsB : List Field → Nat → Bool
  | [], _ => true
  | f :: fs, i => f.type == 25 && f.offset == i * 4 && f.name != "_" && fldsB fs (i + 1)
theorem fldsB_E : ∀ {fs : List Field} {i : Nat}, fldsB fs i = true → ∀ j f, fs[j]? = some f → f.type = 25 ∧ f.offset = (i + j) * 4 ∧ f.name ≠ "_"
  | [], _, _, j, f, h => by simp at h
  | g :: fs, i, h, j, f, hf => by
    simp only [fldsB, Bool.and_eq_true, beq_iff_eq, bne_iff_ne] at h
    cases j with
    | zero =>
      simp at hf
      subst hf
      exact ⟨h.1.1.1, by rw [h.1.1.2]; rfl, h.1.2⟩
    | succ j =>
      have := fldsB_E h.2 j f (by simpa using hf)
      refine ⟨this.1, ?_, this.2.2⟩
      rw [this.2.1]; congr 1; omega
theorem fldsE_of {fs : List Field} {n : Nat} (h : fldsB fs 0 = true) (hl : fs.length = n) : fldsE fs 0 n := ⟨hl, fun j f hf => fldsB_E h j f hf⟩
theorem b_agg {P : Program} {T : Nat → AV} {bop : BinOp} {x y : Operand} {ty ty' : TypeId} {xs ys : Array Value} : binOn P T bop ty x y ty' (.o (.v (.agg xs))) (.o (.v (.agg ys))) = .ex (pureOp P T (.binOp bop ty x y ty')) := rfl
theorem X_eqSpot {T : Nat → AV} {x y : Operand} {ty' : TypeId} {l l' : List Nat} (hl : l.length = 4) (hl' : l'.length = 4) (hx : ev T x = .o (.v (.agg (LC eC l).toArray))) (hy : ev T y = .o (.v (.agg (LC eC l').toArray))) :
    pureOp Try.prog T (.binOp .eql 58 x y ty') (.bool (eqL l l')) :=
  X_eqS (by kernel_rfl) (by kernel_rfl) (by kernel_rfl) (by rw [hl]; exact fldsE_of (by kernel_rfl) (by kernel_rfl)) (by omega) hx hy
end Go.Sx
