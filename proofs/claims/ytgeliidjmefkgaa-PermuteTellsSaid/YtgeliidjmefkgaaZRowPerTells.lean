/-
  The given statement 'Rows.PermuteTellsSaid': where the products end in 1 or 0, and there alone, all checks are 0.. No conditions.
-/
import Derived.Test.YtgeliidjmefkgaaZRowe
import Derived.Test.YtgeliidjmefkgaaZPtd
import Derived.Carry
namespace Go.Proofs.Ytgeliidjmefkgaa.permuteTells
open Go.Proofs Go.ChangeShapes Go.WideShapes Go.ChangeAt Go.RowKit Go.Sx
set_option linter.unusedVariables false
set_option maxRecDepth 100000
theorem walk (w : World) (a0 : Int) (w0 : (Lit.int .i64 a0).wf = true) (a1 : Int) (w1 : (Lit.int .i64 a1).wf = true) (a2 : List (List Nat)) (y2 : List Value) (l2 : ∀ c ∈ a2, ∀ x ∈ c, x < W256) (m2 : ∀ c ∈ a2, c.length * 32 ≤ 140737488351232) (v2 : Value) (g2 : ReadsSlice w v2 a2.length 1 y2) (t2 : TB y2 a2 w) (a3 : List (List Nat)) (y3 : List Value) (l3 : ∀ c ∈ a3, ∀ x ∈ c, x < W256) (m3 : ∀ c ∈ a3, c.length * 32 ≤ 140737488351232) (v3 : Value) (g3 : ReadsSlice w v3 a3.length 1 y3) (t3 : TB y3 a3 w) (a4 : Nat) (l4 : a4 < W256) (a5 : Nat) (l5 : a5 < W256) (a6 : List Nat) (l6 : ∀ x ∈ a6, x < W256) (m6 : a6.length * 32 ≤ 140737488351232) (v6 : Value) (g6 : ReadsSlice w v6 a6.length 4 (LC eC a6)) : Calls Try.prog 18 #[.int .i64 a0, .int .i64 a1, v2, v3, EN a4, EN a5, v6] w fun e w' => e = .returned (.bool true) ∧ Below w.heap.size w w' :=
  row_of (c1_of (c_PermuteTells a0 a1 a2 a3 a4 a5 a6 y2 y3 l4 l5 l2 l3 l6 m2 m3 m6 ⟨_, t2, t3⟩) Try.func18 (by kernel_rfl) (by kernel_rfl)) trivial w [.int .i64 a0, .int .i64 a1, v2, v3, EN a4, EN a5, v6] ⟨⟨rfl, t2, t3⟩, rfl, g2, g3, rfl, rfl, g6, trivial⟩ (apart_nomv (by simp [noMv])) (fun i x F hi w' f => by
    match i, hi with
    | 0, hi => simp only [List.getElem?_cons_zero, Option.some.injEq, Arg.fa.injEq] at hi; obtain ⟨rfl, rfl⟩ := hi; exact ⟨TB_kept (by simp [noMv]) t2 f, TB_kept (by simp [noMv]) t3 f⟩
    | 1, hi => simp at hi
    | 2, hi => simp at hi
    | 3, hi => simp at hi
    | 4, hi => simp at hi
    | 5, hi => simp at hi
    | 6, hi => simp at hi
    | i + 7, hi => simp at hi)

theorem lifted (os : Os) (started : os.Started) (H : Type) (enc : TypeId × Value → H) :
    ReturnsInHanded {} Try.checked os 18 .any (Rows.permuteTellsSpec.pre6 enc Try.prog Try.f18 Rows.permuteTellsRow.domain false) (Rows.permuteTellsSpec.post enc Try.prog Try.f18 false true false false) := by
  refine returnsInHanded_of_change_shaped (C := Try.checked) own started (by kernel_rfl) Try.func18
    (ChangeSpec.witness6 (enc := enc) (C := Try.checked) false ⟨#[], #[.int .i64 0, .int .i64 0, .slice none 0 0, .slice none 0 0, EN 0, EN 0, .slice none 0 0], []⟩ 8 (by kernel_rfl) (by kernel_rfl) (by kernel_rfl) (by kernel_rfl)) ?_
  intro W base args ds gs before hval0 hW hcnd hsz0 _ _
  have hsz : (DataW.weightsEach Try.prog (Try.f18.params.toList ++ []) (ds ++ gs)).all (· ≤ reachBytes) = true := hsz0
  have hval : ∀ (j : Nat) t v, Try.f18.params[j]? = some t → args[j]? = some v → Value.okWide Try.prog W .any base t v := hval0
  have hW' := hW
  obtain ⟨p, q, hA0, hV, rfl, hfz, hnd⟩ := hW
  have hA : DataW.TrodAll enc Try.prog W 0 (fun _ => true) true Try.f18.params.toList args.toList ds p := hA0
  rw [Try.params18] at hA hval hsz
  obtain ⟨v0, vs0, d0, ds0, p0, q0, hargs, rfl, rfl, h0, r0⟩ := trodAll_cons hA
  obtain ⟨v1, vs1, d1, ds1, p1, q1, rfl, rfl, rfl, h1, r1⟩ := trodAll_cons r0
  obtain ⟨v2, vs2, d2, ds2, p2, q2, rfl, rfl, rfl, h2, r2⟩ := trodAll_cons r1
  obtain ⟨v3, vs3, d3, ds3, p3, q3, rfl, rfl, rfl, h3, r3⟩ := trodAll_cons r2
  obtain ⟨v4, vs4, d4, ds4, p4, q4, rfl, rfl, rfl, h4, r4⟩ := trodAll_cons r3
  obtain ⟨v5, vs5, d5, ds5, p5, q5, rfl, rfl, rfl, h5, r5⟩ := trodAll_cons r4
  obtain ⟨v6, vs6, d6, ds6, p6, q6, rfl, rfl, rfl, h6, r6⟩ := trodAll_cons r5
  obtain ⟨rfl, rfl, rfl⟩ := trodAll_nil r6
  obtain rfl : args = #[v0, v1, v2, v3, v4, v5, v6] := by cases args; simp_all
  obtain ⟨rfl, rfl⟩ := trodVars_none hV
  obtain ⟨a0, rfl, rfl, rfl, w0⟩ := open_int Try.underlying3 (hval 0 3 v0 rfl rfl) h0
  obtain ⟨a1, rfl, rfl, rfl, w1⟩ := open_int Try.underlying3 (hval 1 3 v1 rfl rfl) h1
  obtain ⟨a2, y2, l2, m2, g2, t2⟩ := open_table (hval 2 65 v2 rfl rfl) h2 hsz (j := 2) rfl rfl
  have lt2 : ∀ x ∈ p2, x.block < W.heap.size := by obtain ⟨m, hm⟩ := h2; exact DataW.trod_lt m _ _ _ hm
  obtain ⟨a3, y3, l3, m3, g3, t3⟩ := open_table (hval 3 65 v3 rfl rfl) h3 hsz (j := 3) rfl rfl
  have lt3 : ∀ x ∈ p3, x.block < W.heap.size := by obtain ⟨m, hm⟩ := h3; exact DataW.trod_lt m _ _ _ hm
  obtain ⟨a4, l4, rfl⟩ := open_elem (hval 4 25 v4 rfl rfl) h4
  have lt4 : ∀ x ∈ p4, x.block < W.heap.size := by obtain ⟨m, hm⟩ := h4; exact DataW.trod_lt m _ _ _ hm
  obtain ⟨a5, l5, rfl⟩ := open_elem (hval 5 25 v5 rfl rfl) h5
  have lt5 : ∀ x ∈ p5, x.block < W.heap.size := by obtain ⟨m, hm⟩ := h5; exact DataW.trod_lt m _ _ _ hm
  obtain ⟨a6, l6, z6, g6⟩ := open_elems (hval 6 22 v6 rfl rfl) h6
  have m6 := bound_parts hsz (j := 6) (t := 22) (e := 25) rfl rfl Try.underlying22 byE z6
  have lt6 : ∀ x ∈ p6, x.block < W.heap.size := by obtain ⟨m, hm⟩ := h6; exact DataW.trod_lt m _ _ _ hm
  clear hA0 hval0 hsz0
  refine (walk W a0 w0 a1 w1 a2 y2 l2 m2 v2 g2 t2 a3 y3 l3 m3 v3 g3 t3 a4 l4 a5 l5 a6 l6 m6 v6 g6).mono fun e W' ⟨he, bel⟩ => ?_
  subst he
  exact ⟨_, rfl, _, _, _, [], _, [], hW', trodAll_mk1 (shut_bool Try.underlying4 _), (trodAll_cons_mk (shut_int Try.underlying3 w0) (trodAll_cons_mk (shut_int Try.underlying3 w1) (trodAll_cons_mk (Below.trod laidOut (by kernel_rfl) (of_decide_eq_true (by kernel_rfl)) h2 bel lt2) (trodAll_cons_mk (Below.trod laidOut (by kernel_rfl) (of_decide_eq_true (by kernel_rfl)) h3 bel lt3) (trodAll_cons_mk (Below.trod laidOut (by kernel_rfl) (of_decide_eq_true (by kernel_rfl)) h4 bel lt4) (trodAll_cons_mk (Below.trod laidOut (by kernel_rfl) (of_decide_eq_true (by kernel_rfl)) h5 bel lt5) (trodAll_cons_mk (Below.trod laidOut (by kernel_rfl) (of_decide_eq_true (by kernel_rfl)) h6 bel lt6) trodAll_mk0))))))), rfl, bel.frame _, fun h => by cases h⟩
theorem over : Rows.permuteTellsRow.holds Try.pinned (OpenSpec.ofChange Rows.permuteTellsSpec) :=
  OpenClaim.holds_of_wide 18 Try.f18 rfl rfl rfl rfl rfl rfl rfl ⟨rfl, rfl, rfl, rfl, rfl⟩ rfl rfl rfl rfl rfl (by kernel_rfl) Try.func18 (by kernel_rfl)
    (of_decide_eq_true (by kernel_rfl)) (by unfold Func.isWrapper; first | (rw [if_pos (by decide +kernel)]; kernel_rfl) | (rw [if_neg (by decide +kernel)]; exact ⟨rfl, rfl⟩))
    (fun os started H enc _ => lifted os started H enc)
/-- The statement. -/
theorem proved : Rows.PermuteTellsSaid := over
#print axioms proved
end Go.Proofs.Ytgeliidjmefkgaa.permuteTells
