/-
  The given statement 'Rows.LookupChecksSaid': every Checks, here and in the document. No conditions.
-/
import Derived.Test.YtmjhaopkhceegaaZRowc
import Derived.Test.YtmjhaopkhceegaaZLkx
import Derived.Carry
namespace Go.Proofs.Ytmjhaopkhceegaa.lookupChecks
open Go.Proofs Go.ChangeShapes Go.WideShapes Go.ChangeAt Go.RowKit Go.Sx
set_option linter.unusedVariables false
set_option maxRecDepth 100000
theorem walk (w : World) (a0 : Int) (w0 : (Lit.int .i64 a0).wf = true) (a1 : Nat × Nat × Nat × Nat) (l1 : a1.1 < W256 ∧ a1.2.1 < W256 ∧ a1.2.2.1 < W256 ∧ a1.2.2.2 < W256) (a2 : Nat × Nat × Nat × Nat × Nat × Nat × Nat) (l2 : a2.1 < W256 ∧ a2.2.1 < W256 ∧ a2.2.2.1 < W256 ∧ a2.2.2.2.1 < W256 ∧ a2.2.2.2.2.1 < W256 ∧ a2.2.2.2.2.2.1 < W256 ∧ a2.2.2.2.2.2.2 < W256) (a3 : Nat) (l3 : a3 < W256) (a4 : Nat) (l4 : a4 < W256) : Calls Try.prog 6 #[.int .i64 a0, SN a1.1 a1.2.1 a1.2.2.1 a1.2.2.2, KN a2.1 a2.2.1 a2.2.2.1 a2.2.2.2.1 a2.2.2.2.2.1 a2.2.2.2.2.2.1 a2.2.2.2.2.2.2, EN a3, EN a4] w fun e w' => e = .returned (.bool true) ∧ Below w.heap.size w w' :=
  row_of (c1_of (c_LookupChecks a0 a1.1 a1.2.1 a1.2.2.1 a1.2.2.2 a2.1 a2.2.1 a2.2.2.1 a2.2.2.2.1 a2.2.2.2.2.1 a2.2.2.2.2.2.1 a2.2.2.2.2.2.2 a3 a4 l1.2.1 l1.2.2.1 l1.2.2.2 l2.1 l2.2.1 l2.2.2.1 l2.2.2.2.1 l2.2.2.2.2.1 l2.2.2.2.2.2.1 l2.2.2.2.2.2.2 l3 l4) Try.func6 (by kernel_rfl) (by kernel_rfl)) trivial w [.int .i64 a0, SN a1.1 a1.2.1 a1.2.2.1 a1.2.2.2, KN a2.1 a2.2.1 a2.2.2.1 a2.2.2.2.1 a2.2.2.2.2.1 a2.2.2.2.2.2.1 a2.2.2.2.2.2.2, EN a3, EN a4] ⟨rfl, rfl, rfl, rfl, rfl, trivial⟩ (apart_nomv (by simp [noMv]))

theorem lifted (os : Os) (started : os.Started) (H : Type) (enc : TypeId × Value → H) :
    ReturnsInHanded {} Try.checked os 6 .any (Rows.lookupChecksSpec.pre6 enc Try.prog Try.f6 Rows.lookupChecksRow.domain false) (Rows.lookupChecksSpec.post enc Try.prog Try.f6 false true false false) := by
  refine returnsInHanded_of_change_shaped (C := Try.checked) own started (by kernel_rfl) Try.func6
    (ChangeSpec.witness6 (enc := enc) (C := Try.checked) false ⟨#[], #[.int .i64 0, SN 0 0 0 0, KN 0 0 0 0 0 0 0, EN 0, EN 0], []⟩ 8 (by kernel_rfl) (by kernel_rfl) (by kernel_rfl) (by kernel_rfl)) ?_
  intro W base args ds gs before hval0 hW hcnd hsz0 _ _
  have hsz : (DataW.weightsEach Try.prog (Try.f6.params.toList ++ []) (ds ++ gs)).all (· ≤ reachBytes) = true := hsz0
  have hval : ∀ (j : Nat) t v, Try.f6.params[j]? = some t → args[j]? = some v → Value.okWide Try.prog W .any base t v := hval0
  have hW' := hW
  obtain ⟨p, q, hA0, hV, rfl, hfz, hnd⟩ := hW
  have hA : DataW.TrodAll enc Try.prog W 0 (fun _ => true) true Try.f6.params.toList args.toList ds p := hA0
  rw [Try.params6] at hA hval hsz
  obtain ⟨v0, vs0, d0, ds0, p0, q0, hargs, rfl, rfl, h0, r0⟩ := trodAll_cons hA
  obtain ⟨v1, vs1, d1, ds1, p1, q1, rfl, rfl, rfl, h1, r1⟩ := trodAll_cons r0
  obtain ⟨v2, vs2, d2, ds2, p2, q2, rfl, rfl, rfl, h2, r2⟩ := trodAll_cons r1
  obtain ⟨v3, vs3, d3, ds3, p3, q3, rfl, rfl, rfl, h3, r3⟩ := trodAll_cons r2
  obtain ⟨v4, vs4, d4, ds4, p4, q4, rfl, rfl, rfl, h4, r4⟩ := trodAll_cons r3
  obtain ⟨rfl, rfl, rfl⟩ := trodAll_nil r4
  obtain rfl : args = #[v0, v1, v2, v3, v4] := by cases args; simp_all
  obtain ⟨rfl, rfl⟩ := trodVars_none hV
  obtain ⟨a0, rfl, rfl, rfl, w0⟩ := open_int Try.underlying3 (hval 0 3 v0 rfl rfl) h0
  obtain ⟨a1, l1, rfl⟩ := open_spot (hval 1 39 v1 rfl rfl) h1
  have lt1 : ∀ x ∈ p1, x.block < W.heap.size := by obtain ⟨m, hm⟩ := h1; exact DataW.trod_lt m _ _ _ hm
  obtain ⟨a2, l2, rfl⟩ := open_seek (hval 2 41 v2 rfl rfl) h2
  have lt2 : ∀ x ∈ p2, x.block < W.heap.size := by obtain ⟨m, hm⟩ := h2; exact DataW.trod_lt m _ _ _ hm
  obtain ⟨a3, l3, rfl⟩ := open_elem (hval 3 24 v3 rfl rfl) h3
  have lt3 : ∀ x ∈ p3, x.block < W.heap.size := by obtain ⟨m, hm⟩ := h3; exact DataW.trod_lt m _ _ _ hm
  obtain ⟨a4, l4, rfl⟩ := open_elem (hval 4 24 v4 rfl rfl) h4
  have lt4 : ∀ x ∈ p4, x.block < W.heap.size := by obtain ⟨m, hm⟩ := h4; exact DataW.trod_lt m _ _ _ hm
  clear hA0 hval0 hsz0
  refine (walk W a0 w0 a1 l1 a2 l2 a3 l3 a4 l4).mono fun e W' ⟨he, bel⟩ => ?_
  subst he
  exact ⟨_, rfl, _, _, _, [], _, [], hW', trodAll_mk1 (shut_bool Try.underlying4 _), (trodAll_cons_mk (shut_int Try.underlying3 w0) (trodAll_cons_mk (Below.trod laidOut (by kernel_rfl) (of_decide_eq_true (by kernel_rfl)) h1 bel lt1) (trodAll_cons_mk (Below.trod laidOut (by kernel_rfl) (of_decide_eq_true (by kernel_rfl)) h2 bel lt2) (trodAll_cons_mk (Below.trod laidOut (by kernel_rfl) (of_decide_eq_true (by kernel_rfl)) h3 bel lt3) (trodAll_cons_mk (Below.trod laidOut (by kernel_rfl) (of_decide_eq_true (by kernel_rfl)) h4 bel lt4) trodAll_mk0))))), rfl, bel.frame _, fun h => by cases h⟩
theorem over : Rows.lookupChecksRow.holds Try.pinned (OpenSpec.ofChange Rows.lookupChecksSpec) :=
  OpenClaim.holds_of_wide 6 Try.f6 rfl rfl rfl rfl rfl rfl rfl ⟨rfl, rfl, rfl, rfl, rfl⟩ rfl rfl rfl rfl rfl (by kernel_rfl) Try.func6 (by kernel_rfl)
    (of_decide_eq_true (by kernel_rfl)) (by unfold Func.isWrapper; first | (rw [if_pos (by decide +kernel)]; kernel_rfl) | (rw [if_neg (by decide +kernel)]; exact ⟨rfl, rfl⟩))
    (fun os started H enc _ => lifted os started H enc)
/-- The statement. -/
theorem proved : Rows.LookupChecksSaid := over
#print axioms proved
end Go.Proofs.Ytmjhaopkhceegaa.lookupChecks
