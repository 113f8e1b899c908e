/-
  A struct of slices and elements among a row's arguments. No conditions.
-/
import Derived.Test.YtmjhaopkhceegaaZRowa
import Derived.Test.YtmjhaopkhceegaaZPermA
import Derived.ChangeArms
import Derived.Test.YtmjhaopkhceegaaZLld
namespace Go.Sx
open Go.Proofs Go.ChangeShapes Go.WideShapes Go.ChangeAt Go.RowKit
set_option maxRecDepth 100000
/-- A slice that is read stays as it is while only blocks of the machinery are written. -/
theorem reads_kept {w w' : World} {az : List Arg} {ys : List Value} {y : Value} {n size : Nat} {xs : List Value} (hn : noMv az) (h : ReadsSlice w y n size xs) (f : Fr w w' (fun b => moved az ys b ∨ False ∨ aside w b)) : ReadsSlice w' y n size xs := by
  obtain ⟨o, cap, rfl, hle, hl, hnil, hone, hr⟩ := h
  refine ⟨o, cap, rfl, hle, hl, hnil, hone, fun hne => ?_⟩
  obtain ⟨a, rfl, hc⟩ := hr hne
  refine ⟨a, rfl, fun j u hu => ?_⟩
  have h1 := hc j u hu
  rw [World.cell?_of_block (w := w) ?_]
  · exact h1
  · refine f.block _ (World.block_lt_of_cell? w _ h1) ?_
    rintro (hm | hm | ⟨o, ho, hs⟩)
    · exact moved_val hn hm
    · exact hm
    · unfold World.cell? at h1
      rw [ho] at h1
      cases o <;> first | (cases h1; done) | cases hs
theorem part_slice {H : Type} {enc : TypeId × Value → H} {W : World} {sp : Nat → Bool} {held : Bool} {n : Nat} {v : Value} {y : DataW H × List MemPlace} (hf : DataW.trod enc Try.prog W 0 sp held n 25 [v] = some y) :
    ∃ l : List Nat, (∀ x ∈ l, x < W256) ∧ (l.length = 0 ∨ ∃ es sp', y.1 = .slice es sp' ∧ es.length = l.length) ∧ ReadsSlice W v l.length 4 (LC eC l) :=
  open_parts1 (d := y.1) (p := y.2) Try.underlying25 co24 (by decide) eC_len (by intro x u hu; simp [eC] at hu; rcases hu with rfl | rfl | rfl | rfl <;> rfl) part_elem hf
theorem sized_agg {H : Type} {ts : List TypeId} {ds : List (DataW H)} (h : (DataW.weightsEach Try.prog ts ds).all (· ≤ reachBytes) = true) {j : Nat} {t : TypeId} {fs : Array Field} {parts : List (DataW H)} (ht : ts[j]? = some t) (hd : ds[j]? = some (.agg parts))
    (hu : Try.prog.underlying t = some (.struct fs)) : (DataW.weightsEach Try.prog (fs.toList.map (·.type)) parts).all (· ≤ reachBytes) = true := by
  refine List.all_eq_true.2 fun x hx => List.all_eq_true.1 h _ (DataW.weights_mem_each ht hd x ?_)
  simp only [DataW.weights, hu]
  exact hx
theorem list13 {α : Type} (l : List α) (h : l.length = 13) : ∃ a0 a1 a2 a3 a4 a5 a6 a7 a8 a9 b0 b1 b2, l = [a0, a1, a2, a3, a4, a5, a6, a7, a8, a9, b0, b1, b2] := by
  match l, h with
  | [a0, a1, a2, a3, a4, a5, a6, a7, a8, a9, b0, b1, b2], _ => exact ⟨a0, a1, a2, a3, a4, a5, a6, a7, a8, a9, b0, b1, b2, rfl⟩
theorem list7' {α : Type} (l : List α) (h : l.length = 7) : ∃ a b c d e f g, l = [a, b, c, d, e, f, g] := by
  match l, h with
  | [a, b, c, d, e, f, g], _ => exact ⟨a, b, c, d, e, f, g, rfl⟩
theorem coCase : Try.prog.cellsOf 45 = 13 := by kernel_rfl
theorem open_case {H : Type} {enc : TypeId × Value → H} {W : World} {b0 : Nat} {sp : Nat → Bool} {held : Bool} {r : Reach} {v : Value} {d : DataW H} {p : List MemPlace} {ts : List TypeId} {ds : List (DataW H)} {j : Nat} (hv : Value.okWide Try.prog W r b0 45 v)
    (h : DataW.Trod enc Try.prog W 0 sp held 45 v d p) (hsz : (DataW.weightsEach Try.prog ts ds).all (· ≤ reachBytes) = true) (ht : ts[j]? = some 45) (hd : ds[j]? = some d) :
    ∃ (y0 y1 y2 y3 y4 : Value) (β γ : Nat) (i t so ma cs : List Nat), v = XN y0 y1 y2 y3 y4 β γ ∧ XR y0 y1 y2 y3 y4 i t so ma cs W ∧ (β < W256 ∧ γ < W256) ∧ (∀ z ∈ i, z < W256) ∧ (∀ z ∈ t, z < W256) ∧ (∀ z ∈ so, z < W256) ∧ (∀ z ∈ ma, z < W256) ∧ (∀ z ∈ cs, z < W256) ∧
      i.length * 32 ≤ 140737488351232 ∧ t.length * 32 ≤ 140737488351232 ∧ so.length * 32 ≤ 140737488351232 ∧ ma.length * 32 ≤ 140737488351232 ∧ cs.length * 32 ≤ 140737488351232 := by
  obtain ⟨c, rfl, hsize, _⟩ : ∃ cs, v = .agg cs ∧ cs.size = Try.prog.cellsOf 45 ∧ Row.okWide Try.prog W r b0 45 cs := by
    simpa [Value.okWide, Try.underlying45] using hv
  obtain ⟨fuel, hf⟩ := h
  obtain ⟨xs, n, _, hx, hl, hxl, hk⟩ := DataW.trod_struct Try.underlying45 hf
  obtain ⟨rfl, _⟩ := Prod.mk.inj hx
  have hsa := sized_agg hsz ht hd Try.underlying45
  obtain ⟨c⟩ := c
  rw [coCase] at hsize
  obtain ⟨a0, a1, a2, a3, a4, a5, a6, a7, a8, a9, b0, b1, b2, rfl⟩ := list13 c hsize
  obtain ⟨x0, x1, x2, x3, x4, x5, x6, rfl⟩ := list7' xs hxl
  have k0 := hk 0 _ rfl
  have k1 := hk 1 _ rfl
  have k2 := hk 2 _ rfl
  have k3 := hk 3 _ rfl
  have k4 := hk 4 _ rfl
  have k5 := hk 5 _ rfl
  have k6 := hk 6 _ rfl
  obtain ⟨i, i1, i2, i3⟩ := part_slice k0
  obtain ⟨t, t1, t2, t3⟩ := part_slice k1
  obtain ⟨so, s1, s2, s3⟩ := part_slice k2
  obtain ⟨ma, m1, m2, m3⟩ := part_slice k3
  obtain ⟨β, e1, e2⟩ := part_elem k4 rfl
  obtain ⟨γ, g1, g2⟩ := part_elem k5 rfl
  obtain ⟨cs, q1, q2, q3⟩ := part_slice k6
  have e3 : [a4, a5, a6, a7] = eC β := e2
  have g3 : [a8, a9, b0, b1] = eC γ := g2
  simp only [eC, List.cons.injEq, and_true] at e3 g3
  obtain ⟨rfl, rfl, rfl, rfl⟩ := e3
  obtain ⟨rfl, rfl, rfl, rfl⟩ := g3
  refine ⟨a0, a1, a2, a3, b2, β, γ, i, t, so, ma, cs, rfl, ⟨i3, t3, s3, m3, q3⟩, ⟨e1, g1⟩, i1, t1, s1, m1, q1, ?_, ?_, ?_, ?_, ?_⟩
  · exact bound_parts hsa (j := 0) rfl rfl Try.underlying25 byE i2
  · exact bound_parts hsa (j := 1) rfl rfl Try.underlying25 byE t2
  · exact bound_parts hsa (j := 2) rfl rfl Try.underlying25 byE s2
  · exact bound_parts hsa (j := 3) rfl rfl Try.underlying25 byE m2
  · exact bound_parts hsa (j := 6) rfl rfl Try.underlying25 byE q2
end Go.Sx
