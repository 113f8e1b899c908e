/-
  The given statement 'Rows.DomainRoundSaid': coefficients whose values are taken are had again, over any shift. No conditions.
-/
import Derived.Test.YtndmafefpiigoaaZRowa
import Derived.Test.YtndmafefpiigoaaZDoq
import Derived.Carry
namespace Go.Proofs.Ytndmafefpiigoaa.domainRound
open Go.Proofs Go.ChangeShapes Go.WideShapes Go.ChangeAt Go.RowKit Go.Sx
set_option linter.unusedVariables false
set_option maxRecDepth 100000
theorem walk (w : World) (a0 : Int) (w0 : (Lit.int .i64 a0).wf = true) (a1 : Int) (w1 : (Lit.int .i64 a1).wf = true) (a2 : Nat) (l2 : a2 < W256) (a3 : List Nat) (l3 : ∀ x ∈ a3, x < W256) (m3 : a3.length * 32 ≤ 140737488351232) (v3 : Value) (g3 : ReadsSlice w v3 a3.length 4 (LC eC a3)) : Calls Try.prog 16 #[.int .i64 a0, .int .i64 a1, EN a2, v3] w fun e w' => e = .returned (.bool true) ∧ Below w.heap.size w w' :=
  row_of (c1_of (c_DomainRound a0 a1 a2 a3 l2 l3 m3) Try.func16 (by kernel_rfl) (by kernel_rfl)) trivial w [.int .i64 a0, .int .i64 a1, EN a2, v3] ⟨rfl, rfl, rfl, g3, trivial⟩ (apart_nomv (by simp [noMv]))

theorem lifted (os : Os) (started : os.Started) (H : Type) (enc : TypeId × Value → H) :
    ReturnsInHanded {} Try.checked os 16 .any (Rows.domainRoundSpec.pre6 enc Try.prog Try.f16 Rows.domainRoundRow.domain false) (Rows.domainRoundSpec.post enc Try.prog Try.f16 false true false false) := by
  refine returnsInHanded_of_change_shaped (C := Try.checked) own started (by kernel_rfl) Try.func16
    (ChangeSpec.witness6 (enc := enc) (C := Try.checked) false ⟨#[], #[.int .i64 0, .int .i64 0, EN 0, .slice none 0 0], []⟩ 8 (by kernel_rfl) (by kernel_rfl) (by kernel_rfl) (by kernel_rfl)) ?_
  intro W base args ds gs before hval0 hW hcnd hsz0 _ _
  have hsz : (DataW.weightsEach Try.prog (Try.f16.params.toList ++ []) (ds ++ gs)).all (· ≤ reachBytes) = true := hsz0
  have hval : ∀ (j : Nat) t v, Try.f16.params[j]? = some t → args[j]? = some v → Value.okWide Try.prog W .any base t v := hval0
  have hW' := hW
  obtain ⟨p, q, hA0, hV, rfl, hfz, hnd⟩ := hW
  have hA : DataW.TrodAll enc Try.prog W 0 (fun _ => true) true Try.f16.params.toList args.toList ds p := hA0
  rw [Try.params16] at hA hval hsz
  obtain ⟨v0, vs0, d0, ds0, p0, q0, hargs, rfl, rfl, h0, r0⟩ := trodAll_cons hA
  obtain ⟨v1, vs1, d1, ds1, p1, q1, rfl, rfl, rfl, h1, r1⟩ := trodAll_cons r0
  obtain ⟨v2, vs2, d2, ds2, p2, q2, rfl, rfl, rfl, h2, r2⟩ := trodAll_cons r1
  obtain ⟨v3, vs3, d3, ds3, p3, q3, rfl, rfl, rfl, h3, r3⟩ := trodAll_cons r2
  obtain ⟨rfl, rfl, rfl⟩ := trodAll_nil r3
  obtain rfl : args = #[v0, v1, v2, v3] := by cases args; simp_all
  obtain ⟨rfl, rfl⟩ := trodVars_none hV
  obtain ⟨a0, rfl, rfl, rfl, w0⟩ := open_int Try.underlying3 (hval 0 3 v0 rfl rfl) h0
  obtain ⟨a1, rfl, rfl, rfl, w1⟩ := open_int Try.underlying3 (hval 1 3 v1 rfl rfl) h1
  obtain ⟨a2, l2, rfl⟩ := open_elem (hval 2 25 v2 rfl rfl) h2
  have lt2 : ∀ x ∈ p2, x.block < W.heap.size := by obtain ⟨m, hm⟩ := h2; exact DataW.trod_lt m _ _ _ hm
  obtain ⟨a3, l3, z3, g3⟩ := open_elems (hval 3 22 v3 rfl rfl) h3
  have m3 := bound_parts hsz (j := 3) (t := 22) (e := 25) rfl rfl Try.underlying22 byE z3
  have lt3 : ∀ x ∈ p3, x.block < W.heap.size := by obtain ⟨m, hm⟩ := h3; exact DataW.trod_lt m _ _ _ hm
  clear hA0 hval0 hsz0
  refine (walk W a0 w0 a1 w1 a2 l2 a3 l3 m3 v3 g3).mono fun e W' ⟨he, bel⟩ => ?_
  subst he
  exact ⟨_, rfl, _, _, _, [], _, [], hW', trodAll_mk1 (shut_bool Try.underlying4 _), (trodAll_cons_mk (shut_int Try.underlying3 w0) (trodAll_cons_mk (shut_int Try.underlying3 w1) (trodAll_cons_mk (Below.trod laidOut (by kernel_rfl) (of_decide_eq_true (by kernel_rfl)) h2 bel lt2) (trodAll_cons_mk (Below.trod laidOut (by kernel_rfl) (of_decide_eq_true (by kernel_rfl)) h3 bel lt3) trodAll_mk0)))), rfl, bel.frame _, fun h => by cases h⟩
theorem over : Rows.domainRoundRow.holds Try.pinned (OpenSpec.ofChange Rows.domainRoundSpec) :=
  OpenClaim.holds_of_wide 16 Try.f16 rfl rfl rfl rfl rfl rfl rfl ⟨rfl, rfl, rfl, rfl, rfl⟩ rfl rfl rfl rfl rfl (by kernel_rfl) Try.func16 (by kernel_rfl)
    (of_decide_eq_true (by kernel_rfl)) (by unfold Func.isWrapper; first | (rw [if_pos (by decide +kernel)]; kernel_rfl) | (rw [if_neg (by decide +kernel)]; exact ⟨rfl, rfl⟩))
    (fun os started H enc _ => lifted os started H enc)
/-- The statement. -/
theorem proved : Rows.DomainRoundSaid := over
#print axioms proved
end Go.Proofs.Ytndmafefpiigoaa.domainRound
