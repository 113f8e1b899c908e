/-
  lookup.compare, and slices.SortFunc with it. No conditions.
-/
import Derived.Test.YtmjhaopkhceegaaZLkd
import Derived.Test.YtmjhaopkhceegaaZDed
import Derived.Shelf.SlSortCmp.NoneTotal
import Derived.Ground.SlsfProg
import Derived.Shelf.SlGeneric
namespace Go.Proofs
shelf_lay_g SlLaysF0.n6 Slsf 6 at Try 57 as sortLays
end Go.Proofs
namespace Go.Sx
open Go.Proofs Go.Num Go.Sort
-- SY
-- TY: TYX
set_option maxRecDepth 100000
set_option linter.unusedSimpArgs false
set_option pp.deepTerms true
set_option pp.maxSteps 100000
def cmpZ (a b : Nat) : Int := if a < b then -1 else if b < a then 1 else 0
theorem c_compare (a b : Nat) (ha : a < W256) (hb : b < W256) : Contract Try.prog 34 [.val (EN a), .val (EN b)] [.val (.int .i64 (cmpZ a b))] := by
  cases d1 : decide (a < b) with
  | true =>
    have e : cmpZ a b = -1 := if_pos (of_decide_eq_true d1)
    rw [e]
    refine contract_of (N := _) (vars := _) (c := bodyOf Try.f34) Try.func34 (body_eq rfl) rfl rfl (by rfl) mixed _ _ trivial 1000 ?_
    simp only [bodyOf, Try.f34, Option.getD_some, argA, argE, List.length_cons, List.length_nil, Nat.reduceAdd, Nat.reduceSub, List.replicate, List.cons_append, List.nil_append]
    simp only [↓PX, SX, SYX, EY, simprocAttr, TYX]
    refine CallVC.intro (c_Less a b ha hb) ⟨rfl, rfl, trivial⟩ rfl rfl ?_
    simp only [↓PX, SX, SYX, EY, simprocAttr, TYX, d1]
  | false =>
    cases d2 : decide (b < a) with
    | true =>
      have e : cmpZ a b = 1 := by unfold cmpZ; rw [if_neg (of_decide_eq_false d1), if_pos (of_decide_eq_true d2)]
      rw [e]
      refine contract_of (N := _) (vars := _) (c := bodyOf Try.f34) Try.func34 (body_eq rfl) rfl rfl (by rfl) mixed _ _ trivial 1000 ?_
      simp only [bodyOf, Try.f34, Option.getD_some, argA, argE, List.length_cons, List.length_nil, Nat.reduceAdd, Nat.reduceSub, List.replicate, List.cons_append, List.nil_append]
      simp only [↓PX, SX, SYX, EY, simprocAttr, TYX]
      refine CallVC.intro (c_Less a b ha hb) ⟨rfl, rfl, trivial⟩ rfl rfl ?_
      simp only [↓PX, SX, SYX, EY, simprocAttr, TYX, d1]
      refine CallVC.intro (c_Less b a hb ha) ⟨rfl, rfl, trivial⟩ rfl rfl ?_
      simp only [↓PX, SX, SYX, EY, simprocAttr, TYX, d2]
    | false =>
      have e : cmpZ a b = 0 := by unfold cmpZ; rw [if_neg (of_decide_eq_false d1), if_neg (of_decide_eq_false d2)]
      rw [e]
      refine contract_of (N := _) (vars := _) (c := bodyOf Try.f34) Try.func34 (body_eq rfl) rfl rfl (by rfl) mixed _ _ trivial 1000 ?_
      simp only [bodyOf, Try.f34, Option.getD_some, argA, argE, List.length_cons, List.length_nil, Nat.reduceAdd, Nat.reduceSub, List.replicate, List.cons_append, List.nil_append]
      simp only [↓PX, SX, SYX, EY, simprocAttr, TYX]
      refine CallVC.intro (c_Less a b ha hb) ⟨rfl, rfl, trivial⟩ rfl rfl ?_
      simp only [↓PX, SX, SYX, EY, simprocAttr, TYX, d1]
      refine CallVC.intro (c_Less b a hb ha) ⟨rfl, rfl, trivial⟩ rfl rfl ?_
      simp only [↓PX, SX, SYX, EY, simprocAttr, TYX, d2]
/-- A world that is another one with draws and blocks behind it. -/
theorem grow_of_fr {W w' : World} (h : Fr W w' fun _ => False) : ∃ q os', w' = grow (W.drewN q) os' := by
  refine ⟨w'.drawn - W.drawn, w'.heap.extract W.heap.size w'.heap.size, ?_⟩
  have hh : w'.heap = W.heap ++ w'.heap.extract W.heap.size w'.heap.size := by
    apply Array.ext_getElem?
    intro k
    by_cases hk : k < W.heap.size
    · rw [Array.getElem?_append_left hk]; exact h.block k hk (fun x => x)
    · rw [Array.getElem?_append_right (by omega), Array.getElem?_extract]
      by_cases hk2 : k < w'.heap.size
      · rw [if_pos (by omega), Nat.add_sub_cancel' (by omega)]
      · rw [if_neg (by omega), Array.getElem?_eq_none (by omega)]
  obtain ⟨heap, tape, drawn, os, output⟩ := w'
  obtain ⟨heap2, tape2, drawn2, os2, output2⟩ := W
  have h1 := h.os; have h2 := h.tape; have h3 := h.output; have h4 := h.drawn
  simp only at h1 h2 h3 h4 hh
  subst h1 h2 h3
  have h5 : drawn = drawn2 + (drawn - drawn2) := by omega
  show World.mk heap tape drawn os output = World.mk (heap2 ++ heap.extract heap2.size heap.size) tape (drawn2 + (drawn - drawn2)) os output
  rw [← hh, ← h5]
theorem contract1 {f : Nat} {bs : List Arg} {rs : List Res} (hc : Contract Try.prog f bs rs) {fn : Func} (hf : Try.prog.funcs[f]? = some fn) (hb : fn.body.isNone = false) (hn : (fn.name == "runtime.NumGoroutine") = false) : Contract1 Try.prog f bs rs := by
  rcases hc with h | ⟨xs, zs, rfl, rfl, h⟩
  · exact h
  · have := callable_of (P := Try.prog) hf hb hn xs.toArray default
    rw [h default] at this
    cases this
theorem cmp_lays (blk size : Nat) (w : World) : CmpLays Try.prog 34 #[] eW 4 cfW blk 0 size w := by
  intro m os dk _ x y
  have h := (contract1 (c_compare x.v y.v x.h y.h) Try.func34 (by kernel_rfl) (by kernel_rfl)).2 (sortWorldK eW 4 w blk 0 m dk os) [EN x.v, EN y.v] ⟨rfl, rfl, trivial⟩ ⟨fun b hb => (by cases hb), fun b hb => (by cases hb), fun b hb => (by cases hb), fun b hb => (by cases hb), trivial⟩
  have e : (#[.agg (eW x).toArray, .agg (eW y).toArray] ++ (#[] : Array Value)) = [EN x.v, EN y.v].toArray := by rw [Array.append_empty]; rfl
  rw [e]
  refine h.mono ?_
  rintro ex w' ⟨zs, rfl, hfr, hr, _⟩
  obtain ⟨q, os', hw⟩ := grow_of_fr (hfr.mono (bs' := fun _ => False) (fun k hk => by
    rcases hk with hk | hk | hk
    · cases hk
    · cases hk
    · exact hk))
  refine ⟨?_, q, os', hw⟩
  match zs, hr with
  | [z], hr => exact congrArg Ending.returned hr.1
theorem u_SortFunc {l : List Nat} (hl : ∀ x ∈ l, x < W256) (hn : l.length < 4611686018427387904) :
    Contract Try.prog 57 [.io 24 4 l.length (LC eC l) (LC eC (asc l)), .fv 34] [] :=
  sort_contract (ρ := sortLays_ren) sortLays Try.isAgg24 Try.sizeOf24 (callable_of Try.func34 (by kernel_rfl) (by kernel_rfl)) cmp_lays (callable_of Try.func57 (by kernel_rfl) (by kernel_rfl)) hl hn
end Go.Sx
