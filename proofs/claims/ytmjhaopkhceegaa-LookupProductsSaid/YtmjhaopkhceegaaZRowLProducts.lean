/-
  The given statement 'Rows.LookupProductsSaid': Product answers what the document says, leaves its lists as they are and takes as many coins.. No conditions.
-/
import Derived.Test.YtmjhaopkhceegaaZRowd
import Derived.Test.YtmjhaopkhceegaaZLld
import Derived.Carry
namespace Go.Proofs.Ytmjhaopkhceegaa.lookupProducts
open Go.Proofs Go.ChangeShapes Go.WideShapes Go.ChangeAt Go.RowKit Go.Sx
set_option linter.unusedVariables false
set_option maxRecDepth 100000
theorem walk (w : World) (a0 : Int) (w0 : (Lit.int .i64 a0).wf = true) (a1 : Int) (w1 : (Lit.int .i64 a1).wf = true) (y20 y21 y22 y23 y24 : Value) (b2 c2 : Nat) (i2 t2 s2 n2 k2 : List Nat) (x2 : XR y20 y21 y22 y23 y24 i2 t2 s2 n2 k2 w) (u2 : b2 < W256 ∧ c2 < W256) (li2 : ∀ z ∈ i2, z < W256) (lt2 : ∀ z ∈ t2, z < W256) (ls2 : ∀ z ∈ s2, z < W256) (ln2 : ∀ z ∈ n2, z < W256) (lk2 : ∀ z ∈ k2, z < W256) (mi2 : i2.length * 32 ≤ 140737488351232) (mt2 : t2.length * 32 ≤ 140737488351232) (ms2 : s2.length * 32 ≤ 140737488351232) (mn2 : n2.length * 32 ≤ 140737488351232) (mk2 : k2.length * 32 ≤ 140737488351232) : Calls Try.prog 7 #[.int .i64 a0, .int .i64 a1, XN y20 y21 y22 y23 y24 b2 c2] w fun e w' => e = .returned (.bool true) ∧ Below w.heap.size w w' :=
  row_of (c1_of (c_LookupProducts a0 a1 b2 c2 i2 t2 s2 n2 k2 y20 y21 y22 y23 y24 u2.1 u2.2 li2 lt2 ls2 ln2 lk2 mi2 mt2 ms2 mn2 mk2 ⟨_, x2⟩) Try.func7 (by kernel_rfl) (by kernel_rfl)) trivial w [.int .i64 a0, .int .i64 a1, XN y20 y21 y22 y23 y24 b2 c2] ⟨rfl, rfl, ⟨rfl, x2⟩, trivial⟩ (apart_nomv (by simp [noMv])) (fun i x F hi w' f => by
    match i, hi with
    | 2, hi => simp only [List.getElem?_cons_succ, List.getElem?_cons_zero, Option.some.injEq, Arg.fa.injEq] at hi; obtain ⟨rfl, rfl⟩ := hi; exact ⟨reads_kept (by simp [noMv]) x2.h0 f, reads_kept (by simp [noMv]) x2.h1 f, reads_kept (by simp [noMv]) x2.h2 f, reads_kept (by simp [noMv]) x2.h3 f, reads_kept (by simp [noMv]) x2.h4 f⟩
    | 0, hi => simp at hi
    | 1, hi => simp at hi
    | i + 3, hi => simp at hi)

theorem lifted (os : Os) (started : os.Started) (H : Type) (enc : TypeId × Value → H) :
    ReturnsInHanded {} Try.checked os 7 .any (Rows.lookupProductsSpec.pre6 enc Try.prog Try.f7 Rows.lookupProductsRow.domain false) (Rows.lookupProductsSpec.post enc Try.prog Try.f7 false true false false) := by
  refine returnsInHanded_of_change_shaped (C := Try.checked) own started (by kernel_rfl) Try.func7
    (ChangeSpec.witness6 (enc := enc) (C := Try.checked) false ⟨#[], #[.int .i64 0, .int .i64 0, XN (.slice none 0 0) (.slice none 0 0) (.slice none 0 0) (.slice none 0 0) (.slice none 0 0) 0 0], []⟩ 8 (by kernel_rfl) (by kernel_rfl) (by kernel_rfl) (by kernel_rfl)) ?_
  intro W base args ds gs before hval0 hW hcnd hsz0 _ _
  have hsz : (DataW.weightsEach Try.prog (Try.f7.params.toList ++ []) (ds ++ gs)).all (· ≤ reachBytes) = true := hsz0
  have hval : ∀ (j : Nat) t v, Try.f7.params[j]? = some t → args[j]? = some v → Value.okWide Try.prog W .any base t v := hval0
  have hW' := hW
  obtain ⟨p, q, hA0, hV, rfl, hfz, hnd⟩ := hW
  have hA : DataW.TrodAll enc Try.prog W 0 (fun _ => true) true Try.f7.params.toList args.toList ds p := hA0
  rw [Try.params7] at hA hval hsz
  obtain ⟨v0, vs0, d0, ds0, p0, q0, hargs, rfl, rfl, h0, r0⟩ := trodAll_cons hA
  obtain ⟨v1, vs1, d1, ds1, p1, q1, rfl, rfl, rfl, h1, r1⟩ := trodAll_cons r0
  obtain ⟨v2, vs2, d2, ds2, p2, q2, rfl, rfl, rfl, h2, r2⟩ := trodAll_cons r1
  obtain ⟨rfl, rfl, rfl⟩ := trodAll_nil r2
  obtain rfl : args = #[v0, v1, v2] := by cases args; simp_all
  obtain ⟨rfl, rfl⟩ := trodVars_none hV
  obtain ⟨a0, rfl, rfl, rfl, w0⟩ := open_int Try.underlying3 (hval 0 3 v0 rfl rfl) h0
  obtain ⟨a1, rfl, rfl, rfl, w1⟩ := open_int Try.underlying3 (hval 1 3 v1 rfl rfl) h1
  obtain ⟨y20, y21, y22, y23, y24, b2, c2, i2, t2, s2, n2, k2, rfl, x2, u2, li2, lt2, ls2, ln2, lk2, mi2, mt2, ms2, mn2, mk2⟩ := open_case (hval 2 45 v2 rfl rfl) h2 hsz (j := 2) rfl rfl
  have lp2 : ∀ x ∈ p2, x.block < W.heap.size := by obtain ⟨m, hm⟩ := h2; exact DataW.trod_lt m _ _ _ hm
  clear hA0 hval0 hsz0
  refine (walk W a0 w0 a1 w1 y20 y21 y22 y23 y24 b2 c2 i2 t2 s2 n2 k2 x2 u2 li2 lt2 ls2 ln2 lk2 mi2 mt2 ms2 mn2 mk2).mono fun e W' ⟨he, bel⟩ => ?_
  subst he
  exact ⟨_, rfl, _, _, _, [], _, [], hW', trodAll_mk1 (shut_bool Try.underlying4 _), (trodAll_cons_mk (shut_int Try.underlying3 w0) (trodAll_cons_mk (shut_int Try.underlying3 w1) (trodAll_cons_mk (Below.trod laidOut (by kernel_rfl) (of_decide_eq_true (by kernel_rfl)) h2 bel lp2) trodAll_mk0))), rfl, bel.frame _, fun h => by cases h⟩
theorem over : Rows.lookupProductsRow.holds Try.pinned (OpenSpec.ofChange Rows.lookupProductsSpec) :=
  OpenClaim.holds_of_wide 7 Try.f7 rfl rfl rfl rfl rfl rfl rfl ⟨rfl, rfl, rfl, rfl, rfl⟩ rfl rfl rfl rfl rfl (by kernel_rfl) Try.func7 (by kernel_rfl)
    (of_decide_eq_true (by kernel_rfl)) (by unfold Func.isWrapper; first | (rw [if_pos (by decide +kernel)]; kernel_rfl) | (rw [if_neg (by decide +kernel)]; exact ⟨rfl, rfl⟩))
    (fun os started H enc _ => lifted os started H enc)
/-- The statement. -/
theorem proved : Rows.LookupProductsSaid := over
#print axioms proved
end Go.Proofs.Ytmjhaopkhceegaa.lookupProducts
