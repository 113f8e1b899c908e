/-
  Structs of elements among a row's arguments. No conditions.
-/
import Derived.Test.YtmjhaopkhceegaaZRowa
import Derived.Test.YtmjhaopkhceegaaZPermA
import Derived.ChangeArms
namespace Go.Sx
open Go.Proofs Go.ChangeShapes Go.WideShapes Go.ChangeAt Go.RowKit
set_option maxRecDepth 100000
theorem part_elems {H : Type} {enc : TypeId × Value → H} {W : World} {sp : Nat → Bool} {held : Bool} {t : TypeId} {n k : Nat} {fs : Array Field} {cs : List Value} {y : DataW H × List MemPlace} (hu : Try.prog.underlying t = some (.struct fs)) (hb : fldsB fs.toList 0 = true) (hk : fs.size = k) (hc : Try.prog.cellsOf t = k * 4)
    (hf : DataW.trod enc Try.prog W 0 sp held n t cs = some y) : ∃ l : List Nat, l.length = k ∧ (∀ x ∈ l, x < W256) ∧ cs = LC eC l := by
  obtain ⟨xs, n', _, _, hl, hxl, hx⟩ := DataW.trod_struct hu hf
  rw [hc] at hl
  have key : ∀ i, i ≤ k → ∃ l : List Nat, l.length = i ∧ (∀ x ∈ l, x < W256) ∧ cs.take (i * 4) = LC eC l := by
    intro i
    induction i with
    | zero => intro _; exact ⟨[], rfl, by simp, by simp [LC]⟩
    | succ i ih =>
      intro hi
      obtain ⟨l, h1, h2, h3⟩ := ih (by omega)
      have hfi : fs[i]? = some fs[i] := Array.getElem?_eq_getElem (by omega)
      obtain ⟨ft, fo, _⟩ := fldsB_E hb i fs[i] (by simp)
      have h4 := hx i _ hfi
      rw [ft, fo, Nat.zero_add, co24] at h4
      have hxi : xs[i]? = some xs[i] := List.getElem?_eq_getElem (by omega)
      rw [hxi] at h4
      obtain ⟨x, hx1, hx2⟩ := part_elem h4 (by simp; omega)
      refine ⟨l ++ [x], by simp [h1], ?_, ?_⟩
      · intro z hz
        rcases List.mem_append.1 hz with hz | hz
        · exact h2 z hz
        · have : z = x := by simpa using hz
          rw [this]; exact hx1
      · rw [← LC_app, LC_one, ← h3, ← hx2, show (i + 1) * 4 = i * 4 + 4 by omega, List.take_add]
  obtain ⟨l, h1, h2, h3⟩ := key k (Nat.le_refl _)
  exact ⟨l, h1, h2, by rw [← h3, List.take_of_length_le (by omega)]⟩
theorem coSpot : Try.prog.cellsOf 39 = 4 * 4 := by kernel_rfl
theorem open_spot {H : Type} {enc : TypeId × Value → H} {W : World} {b0 : Nat} {sp : Nat → Bool} {held : Bool} {r : Reach} {v : Value} {d : DataW H} {p : List MemPlace} (hv : Value.okWide Try.prog W r b0 39 v)
    (h : DataW.Trod enc Try.prog W 0 sp held 39 v d p) : ∃ a : Nat × Nat × Nat × Nat, (a.1 < W256 ∧ a.2.1 < W256 ∧ a.2.2.1 < W256 ∧ a.2.2.2 < W256) ∧ v = SN a.1 a.2.1 a.2.2.1 a.2.2.2 := by
  obtain ⟨cs, rfl, hsz, _⟩ : ∃ cs, v = .agg cs ∧ cs.size = Try.prog.cellsOf 39 ∧ Row.okWide Try.prog W r b0 39 cs := by
    simpa [Value.okWide, Try.underlying39] using hv
  obtain ⟨fuel, hf⟩ := h
  obtain ⟨l, h1, h2, h3⟩ := part_elems (k := 4) Try.underlying39 (by kernel_rfl) (by kernel_rfl) coSpot hf
  obtain ⟨a, b, c, e, rfl⟩ := list4 l (by simpa using h1)
  refine ⟨(a, b, c, e), ⟨h2 a (by simp), h2 b (by simp), h2 c (by simp), h2 e (by simp)⟩, ?_⟩
  rw [SN_LC, ← h3]
  rfl
end Go.Sx
