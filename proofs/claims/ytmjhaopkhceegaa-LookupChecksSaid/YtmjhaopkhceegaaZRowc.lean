/-
  A lookup's values among a row's arguments. No conditions.
-/
import Derived.Test.YtmjhaopkhceegaaZRowb
import Derived.Test.YtmjhaopkhceegaaZLkw
namespace Go.Sx
open Go.Proofs Go.ChangeShapes Go.WideShapes Go.ChangeAt Go.RowKit
set_option maxRecDepth 100000
theorem coSeek : Try.prog.cellsOf 41 = 7 * 4 := by kernel_rfl
theorem list7 {α : Type} (l : List α) (h : l.length = 7) : ∃ a b c d e f g, l = [a, b, c, d, e, f, g] := by
  match l, h with
  | [a, b, c, d, e, f, g], _ => exact ⟨a, b, c, d, e, f, g, rfl⟩
theorem KN_LC {a b c d e f g : Nat} : KN a b c d e f g = .agg (LC eC [a, b, c, d, e, f, g]).toArray := rfl
theorem open_seek {H : Type} {enc : TypeId × Value → H} {W : World} {b0 : Nat} {sp : Nat → Bool} {held : Bool} {r : Reach} {v : Value} {d : DataW H} {p : List MemPlace} (hv : Value.okWide Try.prog W r b0 41 v)
    (h : DataW.Trod enc Try.prog W 0 sp held 41 v d p) : ∃ a : Nat × Nat × Nat × Nat × Nat × Nat × Nat, (a.1 < W256 ∧ a.2.1 < W256 ∧ a.2.2.1 < W256 ∧ a.2.2.2.1 < W256 ∧ a.2.2.2.2.1 < W256 ∧ a.2.2.2.2.2.1 < W256 ∧ a.2.2.2.2.2.2 < W256) ∧ v = KN a.1 a.2.1 a.2.2.1 a.2.2.2.1 a.2.2.2.2.1 a.2.2.2.2.2.1 a.2.2.2.2.2.2 := by
  obtain ⟨cs, rfl, hsz, _⟩ : ∃ cs, v = .agg cs ∧ cs.size = Try.prog.cellsOf 41 ∧ Row.okWide Try.prog W r b0 41 cs := by
    simpa [Value.okWide, Try.underlying41] using hv
  obtain ⟨fuel, hf⟩ := h
  obtain ⟨l, h1, h2, h3⟩ := part_elems (k := 7) Try.underlying41 (by kernel_rfl) (by kernel_rfl) coSeek hf
  obtain ⟨a, b, c, d, e, f, g, rfl⟩ := list7 l h1
  refine ⟨(a, b, c, d, e, f, g), ⟨h2 a (by simp), h2 b (by simp), h2 c (by simp), h2 d (by simp), h2 e (by simp), h2 f (by simp), h2 g (by simp)⟩, ?_⟩
  rw [KN_LC, ← h3]
  rfl
end Go.Sx
