/-
  What the frames of the rows need: an element among the arguments; what a call leaves as it was. No conditions.
-/
import Derived.Test.YtmjhaopkhceegaaZHel
import Derived.Test.YtmjhaopkhceegaaRows
import Derived.WalkKit
import Derived.ProofKit
import Derived.OpenShut
import Derived.ShutString
import Derived.ChangeOld
import Derived.Below
import Derived.Laws.IdiomArrays
import Derived.HandedShaped
import Derived.SizedLaws
namespace Go.Sx
open Go.Proofs Go.ChangeShapes Go.WideShapes Go.ChangeAt Go.RowKit
set_option maxRecDepth 100000
theorem nomv_none : ∀ {bs : List Arg}, noMv bs → ∀ a ∈ bs, ∀ y, movedBlk a y = none
  | [], _, _, h, _ => by cases h
  | .val _ :: l, hn, a, h, y => by
    rcases List.mem_cons.1 h with rfl | h
    · rfl
    · exact nomv_none (bs := l) hn a h y
  | .sl _ _ _ :: l, hn, a, h, y => by
    rcases List.mem_cons.1 h with rfl | h
    · rfl
    · exact nomv_none (bs := l) hn a h y
  | .bx _ :: l, hn, a, h, y => by
    rcases List.mem_cons.1 h with rfl | h
    · rfl
    · exact nomv_none (bs := l) hn a h y
  | .fv _ :: l, hn, a, h, y => by
    rcases List.mem_cons.1 h with rfl | h
    · rfl
    · exact nomv_none (bs := l) hn a h y
  | .mv _ _ _ _ :: _, hn, _, _, _ => hn.elim
  | .io _ _ _ _ _ :: _, hn, _, _, _ => hn.elim
  | .ib _ _ :: _, hn, _, _, _ => hn.elim
theorem apart_nomv : ∀ {bs : List Arg} {ys : List Value}, noMv bs → apartArgs bs ys
  | [], _, _ => trivial
  | _ :: _, [], _ => by simp [apartArgs]
  | a :: l, y :: ys, hn => by
    have h0 := nomv_none hn
    have hl : noMv l := by cases a <;> first | exact hn | exact hn.elim
    refine ⟨fun b hb => ?_, fun b _ a' y' hin => ?_, apart_nomv hl⟩
    · rw [h0 a (by simp)] at hb; cases hb
    · rw [h0 a' (by simp [(List.of_mem_zip hin).1])]; simp
theorem own : ownKnob Try.prog.godebug = none := by kernel_rfl
theorem laidOut : laidOutB Try.prog = true := by kernel_rfl
theorem list4 {α : Type} (l : List α) (h : (⟨l⟩ : Array α).size = 4) : ∃ a b c d, l = [a, b, c, d] := by
  match l, h with
  | [a, b, c, d], _ => exact ⟨a, b, c, d, rfl⟩
theorem wf_u64 {n : Int} (h : (Lit.int .u64 n).wf = true) : ∃ k : Nat, k < 18446744073709551616 ∧ n = (k : Int) := by
  simp [Lit.wf, IntKind.min, IntKind.max, IntKind.bits, IntKind.signed] at h
  exact ⟨n.toNat, by omega, by omega⟩
theorem co24 : Try.prog.cellsOf 24 = 4 := by kernel_rfl
theorem open_elem {H : Type} {enc : TypeId × Value → H} {W : World} {base b0 : Nat} {sp : Nat → Bool} {held : Bool} {r : Reach} {v : Value} {d : DataW H} {p : List MemPlace} (hv : Value.okWide Try.prog W r b0 24 v)
    (h : DataW.Trod enc Try.prog W base sp held 24 v d p) : ∃ n, n < W256 ∧ v = EN n := by
  obtain ⟨cs, rfl, hsz, _⟩ : ∃ cs, v = .agg cs ∧ cs.size = Try.prog.cellsOf 24 ∧ Row.okWide Try.prog W r b0 24 cs := by
    simpa [Value.okWide, un24] using hv
  rw [co24] at hsz
  obtain ⟨l⟩ := cs
  obtain ⟨c0, c1, c2, c3, rfl⟩ := list4 l hsz
  obtain ⟨fuel, hf⟩ := h
  obtain ⟨y0, y1, y2, y3, m, hx, hy0, hy1, hy2, hy3⟩ := trod_array4 un24 co22 hf
  obtain ⟨x0, e0, _, w0⟩ := DataW.trod_int un22 hy0
  obtain ⟨x1, e1, _, w1⟩ := DataW.trod_int un22 hy1
  obtain ⟨x2, e2, _, w2⟩ := DataW.trod_int un22 hy2
  obtain ⟨x3, e3, _, w3⟩ := DataW.trod_int un22 hy3
  simp at e0 e1 e2 e3
  subst e0 e1 e2 e3
  obtain ⟨k0, l0, rfl⟩ := wf_u64 w0
  obtain ⟨k1, l1, rfl⟩ := wf_u64 w1
  obtain ⟨k2, l2, rfl⟩ := wf_u64 w2
  obtain ⟨k3, l3, rfl⟩ := wf_u64 w3
  refine ⟨k0 + 18446744073709551616 * k1 + 340282366920938463463374607431768211456 * k2 + 6277101735386680763835789423207666416102355444464034512896 * k3, by unfold W256; omega, ?_⟩
  rw [← E4_EN l0 l1 l2 l3]
  rfl
theorem part_elem {H : Type} {enc : TypeId × Value → H} {W : World} {sp : Nat → Bool} {held : Bool} {n : Nat} {cs : List Value} {y : DataW H × List MemPlace} (hf : DataW.trod enc Try.prog W 0 sp held n 24 cs = some y) (hl : cs.length = 4) : ∃ x, x < W256 ∧ cs = eC x := by
  obtain ⟨c0, c1, c2, c3, rfl⟩ := list4 cs (by simpa using hl)
  obtain ⟨y0, y1, y2, y3, m, hx, hy0, hy1, hy2, hy3⟩ := trod_array4 un24 co22 hf
  obtain ⟨x0, e0, _, w0⟩ := DataW.trod_int un22 hy0
  obtain ⟨x1, e1, _, w1⟩ := DataW.trod_int un22 hy1
  obtain ⟨x2, e2, _, w2⟩ := DataW.trod_int un22 hy2
  obtain ⟨x3, e3, _, w3⟩ := DataW.trod_int un22 hy3
  simp at e0 e1 e2 e3
  subst e0 e1 e2 e3
  obtain ⟨k0, l0, rfl⟩ := wf_u64 w0
  obtain ⟨k1, l1, rfl⟩ := wf_u64 w1
  obtain ⟨k2, l2, rfl⟩ := wf_u64 w2
  obtain ⟨k3, l3, rfl⟩ := wf_u64 w3
  refine ⟨k0 + 18446744073709551616 * k1 + 340282366920938463463374607431768211456 * k2 + 6277101735386680763835789423207666416102355444464034512896 * k3, by unfold W256; omega, ?_⟩
  have h := E4_EN l0 l1 l2 l3
  have h2 := congrArg (fun v => v.cells.toList) h
  simp only [cellsE, cellsN] at h2
  exact h2
theorem moved_val : ∀ {bs : List Arg} {ys : List Value} {b : Nat}, noMv bs → ¬ moved bs ys b
  | [], _, _, _, h => h
  | _ :: _, [], _, _, h => h
  | a :: l, y :: ys, b, hn, h => by
    cases a with
    | val x =>
      rcases h with h | h
      · cases h
      · exact moved_val (by simpa [noMv] using hn) h
    | sl n s xs =>
      rcases h with h | h
      · cases h
      · exact moved_val (by simpa [noMv] using hn) h
    | bx xs =>
      rcases h with h | h
      · cases h
      · exact moved_val (by simpa [noMv] using hn) h
    | fv f =>
      rcases h with h | h
      · cases h
      · exact moved_val (by simpa [noMv] using hn) h
    | mv e s n xs => simp [noMv] at hn
    | io e s n xs ys => simp [noMv] at hn
    | ib xs ys => simp [noMv] at hn
theorem c1_of {f : Nat} {bs : List Arg} {rs : List Res} (hc : Contract Try.prog f bs rs) {fn : Func} (hf : Try.prog.funcs[f]? = some fn) (hb : fn.body.isSome = true) (hn : (fn.name == "runtime.NumGoroutine") = false) : Contract1 Try.prog f bs rs := by
  rcases hc with h | ⟨xs, zs, rfl, rfl, h⟩
  · exact h
  · have := callable_of (P := Try.prog) hf (by cases h0 : fn.body <;> simp_all) hn xs.toArray default
    rw [h default] at this
    cases this
/-- What the frame of a row asks of a walk. -/
theorem row_of {f : Nat} {bs : List Arg} {z : Value} (hc : Contract1 Try.prog f bs [.val z]) (hn : noMv bs) (w : World) (ys : List Value) (ha : ArgsOK w bs ys) (hap : apartArgs bs ys) :
    Calls Try.prog f ys.toArray w fun e w' => e = .returned z ∧ Below w.heap.size w w' := by
  refine (hc.2 w ys ha hap).mono ?_
  rintro e w' ⟨zs, rfl, hfr, hr, _⟩
  refine ⟨?_, hfr.os, hfr.tape, hfr.output, hfr.size, fun k hk => hfr.block k hk (moved_val hn)⟩
  match zs, hr with
  | [x], h => exact congrArg Ending.returned h.1
end Go.Sx
