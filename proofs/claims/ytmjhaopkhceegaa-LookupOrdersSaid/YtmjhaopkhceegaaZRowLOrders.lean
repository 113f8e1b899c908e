/-
  The given statement 'Rows.LookupOrdersSaid': sorted are the inputs, matched the tables, each as often. No conditions.
-/
import Derived.Test.YtmjhaopkhceegaaZRowa
import Derived.Test.YtmjhaopkhceegaaZLky
import Derived.Carry
namespace Go.Proofs.Ytmjhaopkhceegaa.lookupOrders
open Go.Proofs Go.ChangeShapes Go.WideShapes Go.ChangeAt Go.RowKit Go.Sx
set_option linter.unusedVariables false
set_option maxRecDepth 100000
theorem walk (w : World) (a0 : Int) (w0 : (Lit.int .i64 a0).wf = true) (a1 : List Nat) (l1 : ∀ x ∈ a1, x < W256) (m1 : a1.length * 32 ≤ 140737488351232) (v1 : Value) (g1 : ReadsSlice w v1 a1.length 4 (LC eC a1)) (a2 : List Nat) (l2 : ∀ x ∈ a2, x < W256) (m2 : a2.length * 32 ≤ 140737488351232) (v2 : Value) (g2 : ReadsSlice w v2 a2.length 4 (LC eC a2)) : Calls Try.prog 4 #[.int .i64 a0, v1, v2] w fun e w' => e = .returned (.bool true) ∧ Below w.heap.size w w' :=
  row_of (c1_of (c_LookupOrders a0 a1 a2 l1 l2 m1 m2) Try.func4 (by kernel_rfl) (by kernel_rfl)) trivial w [.int .i64 a0, v1, v2] ⟨rfl, g1, g2, trivial⟩ (apart_nomv (by simp [noMv]))

theorem lifted (os : Os) (started : os.Started) (H : Type) (enc : TypeId × Value → H) :
    ReturnsInHanded {} Try.checked os 4 .any (Rows.lookupOrdersSpec.pre6 enc Try.prog Try.f4 Rows.lookupOrdersRow.domain false) (Rows.lookupOrdersSpec.post enc Try.prog Try.f4 false true false false) := by
  refine returnsInHanded_of_change_shaped (C := Try.checked) own started (by kernel_rfl) Try.func4
    (ChangeSpec.witness6 (enc := enc) (C := Try.checked) false ⟨#[], #[.int .i64 0, .slice none 0 0, .slice none 0 0], []⟩ 8 (by kernel_rfl) (by kernel_rfl) (by kernel_rfl) (by kernel_rfl)) ?_
  intro W base args ds gs before hval0 hW hcnd hsz0 _ _
  have hsz : (DataW.weightsEach Try.prog (Try.f4.params.toList ++ []) (ds ++ gs)).all (· ≤ reachBytes) = true := hsz0
  have hval : ∀ (j : Nat) t v, Try.f4.params[j]? = some t → args[j]? = some v → Value.okWide Try.prog W .any base t v := hval0
  have hW' := hW
  obtain ⟨p, q, hA0, hV, rfl, hfz, hnd⟩ := hW
  have hA : DataW.TrodAll enc Try.prog W 0 (fun _ => true) true Try.f4.params.toList args.toList ds p := hA0
  rw [Try.params4] at hA hval hsz
  obtain ⟨v0, vs0, d0, ds0, p0, q0, hargs, rfl, rfl, h0, r0⟩ := trodAll_cons hA
  obtain ⟨v1, vs1, d1, ds1, p1, q1, rfl, rfl, rfl, h1, r1⟩ := trodAll_cons r0
  obtain ⟨v2, vs2, d2, ds2, p2, q2, rfl, rfl, rfl, h2, r2⟩ := trodAll_cons r1
  obtain ⟨rfl, rfl, rfl⟩ := trodAll_nil r2
  obtain rfl : args = #[v0, v1, v2] := by cases args; simp_all
  obtain ⟨rfl, rfl⟩ := trodVars_none hV
  obtain ⟨a0, rfl, rfl, rfl, w0⟩ := open_int Try.underlying3 (hval 0 3 v0 rfl rfl) h0
  obtain ⟨a1, l1, z1, g1⟩ := open_elems (hval 1 25 v1 rfl rfl) h1
  have m1 := bound_parts hsz (j := 1) (t := 25) (e := 24) rfl rfl Try.underlying25 byE z1
  have lt1 : ∀ x ∈ p1, x.block < W.heap.size := by obtain ⟨m, hm⟩ := h1; exact DataW.trod_lt m _ _ _ hm
  obtain ⟨a2, l2, z2, g2⟩ := open_elems (hval 2 25 v2 rfl rfl) h2
  have m2 := bound_parts hsz (j := 2) (t := 25) (e := 24) rfl rfl Try.underlying25 byE z2
  have lt2 : ∀ x ∈ p2, x.block < W.heap.size := by obtain ⟨m, hm⟩ := h2; exact DataW.trod_lt m _ _ _ hm
  clear hA0 hval0 hsz0
  refine (walk W a0 w0 a1 l1 m1 v1 g1 a2 l2 m2 v2 g2).mono fun e W' ⟨he, bel⟩ => ?_
  subst he
  exact ⟨_, rfl, _, _, _, [], _, [], hW', trodAll_mk1 (shut_bool Try.underlying4 _), (trodAll_cons_mk (shut_int Try.underlying3 w0) (trodAll_cons_mk (Below.trod laidOut (by kernel_rfl) (of_decide_eq_true (by kernel_rfl)) h1 bel lt1) (trodAll_cons_mk (Below.trod laidOut (by kernel_rfl) (of_decide_eq_true (by kernel_rfl)) h2 bel lt2) trodAll_mk0))), rfl, bel.frame _, fun h => by cases h⟩
theorem over : Rows.lookupOrdersRow.holds Try.pinned (OpenSpec.ofChange Rows.lookupOrdersSpec) :=
  OpenClaim.holds_of_wide 4 Try.f4 rfl rfl rfl rfl rfl rfl rfl ⟨rfl, rfl, rfl, rfl, rfl⟩ rfl rfl rfl rfl rfl (by kernel_rfl) Try.func4 (by kernel_rfl)
    (of_decide_eq_true (by kernel_rfl)) (by unfold Func.isWrapper; first | (rw [if_pos (by decide +kernel)]; kernel_rfl) | (rw [if_neg (by decide +kernel)]; exact ⟨rfl, rfl⟩))
    (fun os started H enc _ => lifted os started H enc)
/-- The statement. -/
theorem proved : Rows.LookupOrdersSaid := over
#print axioms proved
end Go.Proofs.Ytmjhaopkhceegaa.lookupOrders
