/-
  The given statement 'Rows.PermuteChecksSaid': every Checks, here and in the document. No conditions.
-/
import Derived.Test.YtndmafefpiigoaaZRowb
import Derived.Test.YtndmafefpiigoaaZPef
import Derived.Carry
namespace Go.Proofs.Ytndmafefpiigoaa.permuteChecks
open Go.Proofs Go.ChangeShapes Go.WideShapes Go.ChangeAt Go.RowKit Go.Sx
set_option linter.unusedVariables false
set_option maxRecDepth 100000
theorem walk (w : World) (a0 : Int) (w0 : (Lit.int .i64 a0).wf = true) (a1 : Nat × Nat × Nat × Nat) (l1 : a1.1 < W256 ∧ a1.2.1 < W256 ∧ a1.2.2.1 < W256 ∧ a1.2.2.2 < W256) (a2 : List Nat) (l2 : ∀ x ∈ a2, x < W256) (m2 : a2.length * 32 ≤ 140737488351232) (v2 : Value) (g2 : ReadsSlice w v2 a2.length 4 (LC eC a2)) (a3 : List Nat) (l3 : ∀ x ∈ a3, x < W256) (m3 : a3.length * 32 ≤ 140737488351232) (v3 : Value) (g3 : ReadsSlice w v3 a3.length 4 (LC eC a3)) (a4 : List (Nat × Nat × Nat)) (l4 : ∀ z ∈ a4, z.1 < W256 ∧ z.2.1 < W256 ∧ z.2.2 < W256) (m4 : a4.length * 96 ≤ 140737488351232) (v4 : Value) (g4 : ReadsSlice w v4 a4.length 12 (LC cC a4)) (a5 : Nat) (l5 : a5 < W256) (a6 : Nat) (l6 : a6 < W256) : Calls Try.prog 14 #[.int .i64 a0, SN a1.1 a1.2.1 a1.2.2.1 a1.2.2.2, v2, v3, v4, EN a5, EN a6] w fun e w' => e = .returned (.bool true) ∧ Below w.heap.size w w' :=
  row_of (c1_of (c_PermuteChecks a0 a1.1 a1.2.1 a1.2.2.1 a1.2.2.2 a2 a3 a4 a5 a6 l1.1 l1.2.1 l1.2.2.1 l1.2.2.2 l2 l3 l4 l5 l6 m2 m3 m4) Try.func14 (by kernel_rfl) (by kernel_rfl)) trivial w [.int .i64 a0, SN a1.1 a1.2.1 a1.2.2.1 a1.2.2.2, v2, v3, v4, EN a5, EN a6] ⟨rfl, rfl, g2, g3, g4, rfl, rfl, trivial⟩ (apart_nomv (by simp [noMv]))

theorem lifted (os : Os) (started : os.Started) (H : Type) (enc : TypeId × Value → H) :
    ReturnsInHanded {} Try.checked os 14 .any (Rows.permuteChecksSpec.pre6 enc Try.prog Try.f14 Rows.permuteChecksRow.domain false) (Rows.permuteChecksSpec.post enc Try.prog Try.f14 false true false false) := by
  refine returnsInHanded_of_change_shaped (C := Try.checked) own started (by kernel_rfl) Try.func14
    (ChangeSpec.witness6 (enc := enc) (C := Try.checked) false ⟨#[], #[.int .i64 0, SN 0 0 0 0, .slice none 0 0, .slice none 0 0, .slice none 0 0, EN 0, EN 0], []⟩ 8 (by kernel_rfl) (by kernel_rfl) (by kernel_rfl) (by kernel_rfl)) ?_
  intro W base args ds gs before hval0 hW hcnd hsz0 _ _
  have hsz : (DataW.weightsEach Try.prog (Try.f14.params.toList ++ []) (ds ++ gs)).all (· ≤ reachBytes) = true := hsz0
  have hval : ∀ (j : Nat) t v, Try.f14.params[j]? = some t → args[j]? = some v → Value.okWide Try.prog W .any base t v := hval0
  have hW' := hW
  obtain ⟨p, q, hA0, hV, rfl, hfz, hnd⟩ := hW
  have hA : DataW.TrodAll enc Try.prog W 0 (fun _ => true) true Try.f14.params.toList args.toList ds p := hA0
  rw [Try.params14] at hA hval hsz
  obtain ⟨v0, vs0, d0, ds0, p0, q0, hargs, rfl, rfl, h0, r0⟩ := trodAll_cons hA
  obtain ⟨v1, vs1, d1, ds1, p1, q1, rfl, rfl, rfl, h1, r1⟩ := trodAll_cons r0
  obtain ⟨v2, vs2, d2, ds2, p2, q2, rfl, rfl, rfl, h2, r2⟩ := trodAll_cons r1
  obtain ⟨v3, vs3, d3, ds3, p3, q3, rfl, rfl, rfl, h3, r3⟩ := trodAll_cons r2
  obtain ⟨v4, vs4, d4, ds4, p4, q4, rfl, rfl, rfl, h4, r4⟩ := trodAll_cons r3
  obtain ⟨v5, vs5, d5, ds5, p5, q5, rfl, rfl, rfl, h5, r5⟩ := trodAll_cons r4
  obtain ⟨v6, vs6, d6, ds6, p6, q6, rfl, rfl, rfl, h6, r6⟩ := trodAll_cons r5
  obtain ⟨rfl, rfl, rfl⟩ := trodAll_nil r6
  obtain rfl : args = #[v0, v1, v2, v3, v4, v5, v6] := by cases args; simp_all
  obtain ⟨rfl, rfl⟩ := trodVars_none hV
  obtain ⟨a0, rfl, rfl, rfl, w0⟩ := open_int Try.underlying3 (hval 0 3 v0 rfl rfl) h0
  obtain ⟨a1, l1, rfl⟩ := open_spot (hval 1 42 v1 rfl rfl) h1
  have lt1 : ∀ x ∈ p1, x.block < W.heap.size := by obtain ⟨m, hm⟩ := h1; exact DataW.trod_lt m _ _ _ hm
  obtain ⟨a2, l2, z2, g2⟩ := open_elems (hval 2 22 v2 rfl rfl) h2
  have m2 := bound_parts hsz (j := 2) (t := 22) (e := 25) rfl rfl Try.underlying22 byE z2
  have lt2 : ∀ x ∈ p2, x.block < W.heap.size := by obtain ⟨m, hm⟩ := h2; exact DataW.trod_lt m _ _ _ hm
  obtain ⟨a3, l3, z3, g3⟩ := open_elems (hval 3 22 v3 rfl rfl) h3
  have m3 := bound_parts hsz (j := 3) (t := 22) (e := 25) rfl rfl Try.underlying22 byE z3
  have lt3 : ∀ x ∈ p3, x.block < W.heap.size := by obtain ⟨m, hm⟩ := h3; exact DataW.trod_lt m _ _ _ hm
  obtain ⟨a4, l4, z4, g4⟩ := open_chunks (hval 4 59 v4 rfl rfl) h4
  have m4 := bound_parts hsz (j := 4) (t := 59) (e := 99) rfl rfl Try.underlying59 byChunk z4
  have lt4 : ∀ x ∈ p4, x.block < W.heap.size := by obtain ⟨m, hm⟩ := h4; exact DataW.trod_lt m _ _ _ hm
  obtain ⟨a5, l5, rfl⟩ := open_elem (hval 5 25 v5 rfl rfl) h5
  have lt5 : ∀ x ∈ p5, x.block < W.heap.size := by obtain ⟨m, hm⟩ := h5; exact DataW.trod_lt m _ _ _ hm
  obtain ⟨a6, l6, rfl⟩ := open_elem (hval 6 25 v6 rfl rfl) h6
  have lt6 : ∀ x ∈ p6, x.block < W.heap.size := by obtain ⟨m, hm⟩ := h6; exact DataW.trod_lt m _ _ _ hm
  clear hA0 hval0 hsz0
  refine (walk W a0 w0 a1 l1 a2 l2 m2 v2 g2 a3 l3 m3 v3 g3 a4 l4 m4 v4 g4 a5 l5 a6 l6).mono fun e W' ⟨he, bel⟩ => ?_
  subst he
  exact ⟨_, rfl, _, _, _, [], _, [], hW', trodAll_mk1 (shut_bool Try.underlying4 _), (trodAll_cons_mk (shut_int Try.underlying3 w0) (trodAll_cons_mk (Below.trod laidOut (by kernel_rfl) (of_decide_eq_true (by kernel_rfl)) h1 bel lt1) (trodAll_cons_mk (Below.trod laidOut (by kernel_rfl) (of_decide_eq_true (by kernel_rfl)) h2 bel lt2) (trodAll_cons_mk (Below.trod laidOut (by kernel_rfl) (of_decide_eq_true (by kernel_rfl)) h3 bel lt3) (trodAll_cons_mk (Below.trod laidOut (by kernel_rfl) (of_decide_eq_true (by kernel_rfl)) h4 bel lt4) (trodAll_cons_mk (Below.trod laidOut (by kernel_rfl) (of_decide_eq_true (by kernel_rfl)) h5 bel lt5) (trodAll_cons_mk (Below.trod laidOut (by kernel_rfl) (of_decide_eq_true (by kernel_rfl)) h6 bel lt6) trodAll_mk0))))))), rfl, bel.frame _, fun h => by cases h⟩
theorem over : Rows.permuteChecksRow.holds Try.pinned (OpenSpec.ofChange Rows.permuteChecksSpec) :=
  OpenClaim.holds_of_wide 14 Try.f14 rfl rfl rfl rfl rfl rfl rfl ⟨rfl, rfl, rfl, rfl, rfl⟩ rfl rfl rfl rfl rfl (by kernel_rfl) Try.func14 (by kernel_rfl)
    (of_decide_eq_true (by kernel_rfl)) (by unfold Func.isWrapper; first | (rw [if_pos (by decide +kernel)]; kernel_rfl) | (rw [if_neg (by decide +kernel)]; exact ⟨rfl, rfl⟩))
    (fun os started H enc _ => lifted os started H enc)
/-- The statement. -/
theorem proved : Rows.PermuteChecksSaid := over
#print axioms proved
end Go.Proofs.Ytndmafefpiigoaa.permuteChecks
