/-
  What the frames of the rows need: an element among the arguments; what a call leaves as it was. No conditions.
-/
import Derived.Test.YtgeliidjmefkgaaZHel
import Derived.Test.YtgeliidjmefkgaaRows
import Derived.WalkKit
import Derived.ProofKit
import Derived.OpenShut
import Derived.ShutString
import Derived.ChangeOld
import Derived.Below
import Derived.Laws.IdiomArrays
import Derived.HandedShaped
import Derived.SizedLaws
namespace Go.Sx
open Go.Proofs Go.ChangeShapes Go.WideShapes Go.ChangeAt Go.RowKit
set_option maxRecDepth 100000
theorem nomv_none : ∀ {bs : List Arg}, noMv bs → ∀ a ∈ bs, ∀ y, movedBlk a y = none
  | [], _, _, h, _ => by cases h
  | .val _ :: l, hn, a, h, y => by
    rcases List.mem_cons.1 h with rfl | h
    · rfl
    · exact nomv_none (bs := l) hn a h y
  | .sl _ _ _ :: l, hn, a, h, y => by
    rcases List.mem_cons.1 h with rfl | h
    · rfl
    · exact nomv_none (bs := l) hn a h y
  | .bx _ :: l, hn, a, h, y => by
    rcases List.mem_cons.1 h with rfl | h
    · rfl
    · exact nomv_none (bs := l) hn a h y
  | .fv _ :: l, hn, a, h, y => by
    rcases List.mem_cons.1 h with rfl | h
    · rfl
    · exact nomv_none (bs := l) hn a h y
  | .fa _ _ :: l, hn, a, h, y => by
    rcases List.mem_cons.1 h with rfl | h
    · rfl
    · exact nomv_none (bs := l) hn a h y
  | .mv _ _ _ _ :: _, hn, _, _, _ => hn.elim
  | .io _ _ _ _ _ :: _, hn, _, _, _ => hn.elim
  | .ib _ _ :: _, hn, _, _, _ => hn.elim
theorem apart_nomv : ∀ {bs : List Arg} {ys : List Value}, noMv bs → apartArgs bs ys
  | [], _, _ => trivial
  | _ :: _, [], _ => by simp [apartArgs]
  | a :: l, y :: ys, hn => by
    have h0 := nomv_none hn
    have hl : noMv l := by cases a <;> first | exact hn | exact hn.elim
    refine ⟨fun b hb => ?_, fun b _ a' y' hin => ?_, apart_nomv hl⟩
    · rw [h0 a (by simp)] at hb; cases hb
    · rw [h0 a' (by simp [(List.of_mem_zip hin).1])]; simp
theorem own : ownKnob Try.prog.godebug = none := by kernel_rfl
theorem laidOut : laidOutB Try.prog = true := by kernel_rfl
theorem list4 {α : Type} (l : List α) (h : (⟨l⟩ : Array α).size = 4) : ∃ a b c d, l = [a, b, c, d] := by
  match l, h with
  | [a, b, c, d], _ => exact ⟨a, b, c, d, rfl⟩
theorem wf_u64 {n : Int} (h : (Lit.int .u64 n).wf = true) : ∃ k : Nat, k < 18446744073709551616 ∧ n = (k : Int) := by
  simp [Lit.wf, IntKind.min, IntKind.max, IntKind.bits, IntKind.signed] at h
  exact ⟨n.toNat, by omega, by omega⟩
theorem co24 : Try.prog.cellsOf 25 = 4 := by kernel_rfl
theorem open_elem {H : Type} {enc : TypeId × Value → H} {W : World} {base b0 : Nat} {sp : Nat → Bool} {held : Bool} {r : Reach} {v : Value} {d : DataW H} {p : List MemPlace} (hv : Value.okWide Try.prog W r b0 25 v)
    (h : DataW.Trod enc Try.prog W base sp held 25 v d p) : ∃ n, n < W256 ∧ v = EN n := by
  obtain ⟨cs, rfl, hsz, _⟩ : ∃ cs, v = .agg cs ∧ cs.size = Try.prog.cellsOf 25 ∧ Row.okWide Try.prog W r b0 25 cs := by
    simpa [Value.okWide, un24] using hv
  rw [co24] at hsz
  obtain ⟨l⟩ := cs
  obtain ⟨c0, c1, c2, c3, rfl⟩ := list4 l hsz
  obtain ⟨fuel, hf⟩ := h
  obtain ⟨y0, y1, y2, y3, m, hx, hy0, hy1, hy2, hy3⟩ := trod_array4 un24 co22 hf
  obtain ⟨x0, e0, _, w0⟩ := DataW.trod_int un22 hy0
  obtain ⟨x1, e1, _, w1⟩ := DataW.trod_int un22 hy1
  obtain ⟨x2, e2, _, w2⟩ := DataW.trod_int un22 hy2
  obtain ⟨x3, e3, _, w3⟩ := DataW.trod_int un22 hy3
  simp at e0 e1 e2 e3
  subst e0 e1 e2 e3
  obtain ⟨k0, l0, rfl⟩ := wf_u64 w0
  obtain ⟨k1, l1, rfl⟩ := wf_u64 w1
  obtain ⟨k2, l2, rfl⟩ := wf_u64 w2
  obtain ⟨k3, l3, rfl⟩ := wf_u64 w3
  refine ⟨k0 + 18446744073709551616 * k1 + 340282366920938463463374607431768211456 * k2 + 6277101735386680763835789423207666416102355444464034512896 * k3, by unfold W256; omega, ?_⟩
  rw [← E4_EN l0 l1 l2 l3]
  rfl
/-- A slice is one cell. -/
theorem slice_one {W : World} {r : Reach} {b0 : Nat} {t e : TypeId} {v : Value} (hu : Try.prog.underlying t = some (.slice e)) (hval : Value.okWide Try.prog W r b0 t v) : v.cells.toList = [v] := by
  cases v with
  | agg cs => simp [Value.okWide, Cell.okWide, Cell.ok, hu] at hval
  | _ => rfl
/-- A slice's parts, each of the same count of cells, from its one cell. -/
theorem open_parts1 {H : Type} {enc : TypeId × Value → H} {W : World} {sp : Nat → Bool} {held : Bool} {t e : TypeId} {v : Value} {d : DataW H} {p : List MemPlace} {α : Type} {f : α → List Value} {sz : Nat} {ok : α → Prop}
    (hu : Try.prog.underlying t = some (.slice e)) (hc : Try.prog.cellsOf e = sz) (hs : 0 < sz) (hf : ∀ x, (f x).length = sz) (h1 : ∀ x, ∀ u ∈ f x, u.oneCell' = true)
    (part : ∀ {n cs y}, DataW.trod enc Try.prog W 0 sp held n e cs = some y → cs.length = sz → ∃ x, ok x ∧ cs = f x)
    {fuel : Nat} (hd : DataW.trod enc Try.prog W 0 sp held fuel t [v] = some (d, p)) :
    ∃ l : List α, (∀ x ∈ l, ok x) ∧ (l.length = 0 ∨ ∃ es sp', d = .slice es sp' ∧ es.length = l.length) ∧ ReadsSlice W v l.length sz (LC f l) := by
  rcases DataW.trod_slice hu hd with ⟨hcs, _⟩ | ⟨a, len, cap, elems, rest, n, rfl, hcs, hdd, _, hle, hcap, hlen, hel, _⟩
  · simp only [List.cons.injEq, and_true] at hcs
    exact ⟨[], by simp, .inl rfl, none, 0, hcs, by simp, by simp [LC], by simp, by simp [LC], by simp [LC]⟩
  · simp only [List.cons.injEq, and_true] at hcs
    have key : ∀ k, k ≤ len → ∃ l : List α, l.length = k ∧ (∀ x ∈ l, ok x) ∧ ∀ j u, (LC f l)[j]? = some u → W.cell? (a.add j) = some u := by
      intro k
      induction k with
      | zero => intro _; exact ⟨[], rfl, by simp, by simp [LC]⟩
      | succ k ih =>
        intro hk
        obtain ⟨l, hl, hok, hcell⟩ := ih (by omega)
        have he := hel k (by omega)
        cases hc0 : W.cells? 0 (a.add (k * Try.prog.cellsOf e)) (Try.prog.cellsOf e) with
        | none =>
          rw [hc0] at he
          simp only [Option.bind_none] at he
          have : elems[k]? ≠ none := by simp; omega
          exact absurd he.symm this
        | some cs =>
          rw [hc0] at he
          simp only [Option.bind_some] at he
          obtain ⟨_, hcl, hcc⟩ := World.cells?_some hc0
          have hy : ∃ y, elems[k]? = some y := ⟨_, List.getElem?_eq_getElem (by omega)⟩
          obtain ⟨y, hy⟩ := hy
          rw [hy] at he
          obtain ⟨x, hx, rfl⟩ := part he (by rw [hcl, hc])
          refine ⟨l ++ [x], by simp [hl], ?_, ?_⟩
          · intro z hz
            rcases List.mem_append.1 hz with hz | hz
            · exact hok z hz
            · have hz : z = x := by simpa using hz
              rw [hz]; exact hx
          · intro j u hj
            rw [← LC_app, LC_one] at hj
            have hll := LC_len hf l
            by_cases hjl : j < (LC f l).length
            · rw [List.getElem?_append_left hjl] at hj
              exact hcell j u hj
            · rw [List.getElem?_append_right (by omega)] at hj
              have hjs : j - (LC f l).length < sz := by
                have := (List.getElem?_eq_some_iff.1 hj).1
                rwa [hf] at this
              have h3 := hcc (j - (LC f l).length) (by rw [hc]; exact hjs)
              rw [addr_add_add, hc] at h3
              have e : k * sz + (j - (LC f l).length) = j := by rw [hll, hl] at hjl ⊢; omega
              rw [e, hj] at h3
              exact h3
    obtain ⟨l, hl, hok, hcell⟩ := key len (Nat.le_refl _)
    simp only [Prod.mk.injEq] at hdd
    refine ⟨l, hok, .inr ⟨_, _, hdd.1, by simp [hlen, hl]⟩, some a, cap, by rw [hl]; exact hcs, by rw [hl]; exact hle, LC_len hf l, by simp, ?_, fun _ => ⟨a, rfl, hcell⟩⟩
    intro u hu
    simp only [LC, List.mem_flatMap] at hu
    obtain ⟨x, _, hx⟩ := hu
    exact h1 x u hx
/-- A slice's parts. -/
theorem open_parts {H : Type} {enc : TypeId × Value → H} {W : World} {sp : Nat → Bool} {held : Bool} {r : Reach} {b0 : Nat} {t e : TypeId} {v : Value} {d : DataW H} {p : List MemPlace} {α : Type} {f : α → List Value} {sz : Nat} {ok : α → Prop}
    (hu : Try.prog.underlying t = some (.slice e)) (hc : Try.prog.cellsOf e = sz) (hs : 0 < sz) (hf : ∀ x, (f x).length = sz) (h1 : ∀ x, ∀ u ∈ f x, u.oneCell' = true)
    (part : ∀ {n cs y}, DataW.trod enc Try.prog W 0 sp held n e cs = some y → cs.length = sz → ∃ x, ok x ∧ cs = f x)
    (hval : Value.okWide Try.prog W r b0 t v) (h : DataW.Trod enc Try.prog W 0 sp held t v d p) :
    ∃ l : List α, (∀ x ∈ l, ok x) ∧ (l.length = 0 ∨ ∃ es sp', d = .slice es sp' ∧ es.length = l.length) ∧ ReadsSlice W v l.length sz (LC f l) := by
  have hv := slice_one hu hval
  obtain ⟨fuel, hd⟩ := h
  rw [hv] at hd
  exact open_parts1 hu hc hs hf h1 part hd
theorem part_elem {H : Type} {enc : TypeId × Value → H} {W : World} {sp : Nat → Bool} {held : Bool} {n : Nat} {cs : List Value} {y : DataW H × List MemPlace} (hf : DataW.trod enc Try.prog W 0 sp held n 25 cs = some y) (hl : cs.length = 4) : ∃ x, x < W256 ∧ cs = eC x := by
  obtain ⟨c0, c1, c2, c3, rfl⟩ := list4 cs (by simpa using hl)
  obtain ⟨y0, y1, y2, y3, m, hx, hy0, hy1, hy2, hy3⟩ := trod_array4 un24 co22 hf
  obtain ⟨x0, e0, _, w0⟩ := DataW.trod_int un22 hy0
  obtain ⟨x1, e1, _, w1⟩ := DataW.trod_int un22 hy1
  obtain ⟨x2, e2, _, w2⟩ := DataW.trod_int un22 hy2
  obtain ⟨x3, e3, _, w3⟩ := DataW.trod_int un22 hy3
  simp at e0 e1 e2 e3
  subst e0 e1 e2 e3
  obtain ⟨k0, l0, rfl⟩ := wf_u64 w0
  obtain ⟨k1, l1, rfl⟩ := wf_u64 w1
  obtain ⟨k2, l2, rfl⟩ := wf_u64 w2
  obtain ⟨k3, l3, rfl⟩ := wf_u64 w3
  refine ⟨k0 + 18446744073709551616 * k1 + 340282366920938463463374607431768211456 * k2 + 6277101735386680763835789423207666416102355444464034512896 * k3, by unfold W256; omega, ?_⟩
  have h := E4_EN l0 l1 l2 l3
  have h2 := congrArg (fun v => v.cells.toList) h
  simp only [cellsE, cellsN] at h2
  exact h2
theorem open_elems {H : Type} {enc : TypeId × Value → H} {W : World} {sp : Nat → Bool} {held : Bool} {r : Reach} {b0 : Nat} {v : Value} {d : DataW H} {p : List MemPlace}
    (hval : Value.okWide Try.prog W r b0 22 v) (h : DataW.Trod enc Try.prog W 0 sp held 22 v d p) : ∃ l : List Nat, (∀ x ∈ l, x < W256) ∧ (l.length = 0 ∨ ∃ es sp', d = .slice es sp' ∧ es.length = l.length) ∧ ReadsSlice W v l.length 4 (LC eC l) :=
  open_parts Try.underlying22 co24 (by decide) eC_len (by intro x u hu; simp [eC] at hu; rcases hu with rfl | rfl | rfl | rfl <;> rfl) part_elem hval h
theorem byE : Try.prog.bytesOf 25 = 32 := by kernel_rfl
theorem bound_parts {H : Type} {ts : List TypeId} {ds : List (DataW H)} (h : (DataW.weightsEach Try.prog ts ds).all (· ≤ reachBytes) = true) {j : Nat} {t e : TypeId} {d : DataW H} {n k : Nat} (ht : ts[j]? = some t) (hd : ds[j]? = some d)
    (hu : Try.prog.underlying t = some (.slice e)) (hk : Try.prog.bytesOf e = k) (hn : n = 0 ∨ ∃ es sp', d = .slice es sp' ∧ es.length = n) : n * k ≤ 140737488351232 := by
  rcases hn with rfl | ⟨es, sp', rfl, rfl⟩
  · simp
  · have := sized_slice h ht hd hu
    rw [hk] at this
    have h2 : es.length * k ≤ (es.length + sp'.length) * k := Nat.mul_le_mul_right _ (Nat.le_add_right _ _)
    have h3 : reachBytes = 140737488351232 := rfl
    omega
theorem moved_val : ∀ {bs : List Arg} {ys : List Value} {b : Nat}, noMv bs → ¬ moved bs ys b
  | [], _, _, _, h => h
  | _ :: _, [], _, _, h => h
  | a :: l, y :: ys, b, hn, h => by
    cases a with
    | val x =>
      rcases h with h | h
      · cases h
      · exact moved_val (by simpa [noMv] using hn) h
    | sl n s xs =>
      rcases h with h | h
      · cases h
      · exact moved_val (by simpa [noMv] using hn) h
    | bx xs =>
      rcases h with h | h
      · cases h
      · exact moved_val (by simpa [noMv] using hn) h
    | fv f =>
      rcases h with h | h
      · cases h
      · exact moved_val (by simpa [noMv] using hn) h
    | fa x F =>
      rcases h with h | h
      · cases h
      · exact moved_val (by simpa [noMv] using hn) h
    | mv e s n xs => simp [noMv] at hn
    | io e s n xs ys => simp [noMv] at hn
    | ib xs ys => simp [noMv] at hn
theorem c1_of {f : Nat} {bs : List Arg} {rs : List Res} (hc : Contract Try.prog f bs rs) {fn : Func} (hf : Try.prog.funcs[f]? = some fn) (hb : fn.body.isSome = true) (hn : (fn.name == "runtime.NumGoroutine") = false) : Contract1 Try.prog f bs rs := by
  rcases hc with h | ⟨xs, zs, rfl, rfl, h⟩
  · exact h
  · have := callable_of (P := Try.prog) hf (by cases h0 : fn.body <;> simp_all) hn xs.toArray default
    rw [h default] at this
    cases this
/-- What the frame of a row asks of a walk. -/
theorem row_of {f : Nat} {bs : List Arg} {z : Value} (hc : Contract1 Try.prog f bs [.val z]) (hn : noMv bs) (w : World) (ys : List Value) (ha : ArgsOK w bs ys) (hap : apartArgs bs ys) (hfa : factsOK w (fun _ => False) bs ys := by exact factsOK_of (by rfl)) :
    Calls Try.prog f ys.toArray w fun e w' => e = .returned z ∧ Below w.heap.size w w' := by
  refine (hc.2 w ys (fun _ => False) ha hap hfa).mono ?_
  rintro e w' ⟨zs, rfl, hfr, hr, _⟩
  refine ⟨?_, hfr.os, hfr.tape, hfr.output, hfr.size, fun k hk => hfr.block k hk (moved_val hn)⟩
  match zs, hr with
  | [x], h => exact congrArg Ending.returned h.1
end Go.Sx
