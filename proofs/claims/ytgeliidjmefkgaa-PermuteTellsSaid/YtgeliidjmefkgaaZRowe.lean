/-
  Tables among a row's arguments: slices of slices of elements. No conditions.
-/
import Derived.Test.YtgeliidjmefkgaaZRowa
import Derived.Test.YtgeliidjmefkgaaZTab
namespace Go.Sx
open Go.Proofs Go.ChangeShapes Go.WideShapes Go.ChangeAt Go.RowKit
set_option maxRecDepth 100000
/-- A slice's parts, each with what is known of its data. -/
theorem open_parts2 {H : Type} {enc : TypeId × Value → H} {W : World} {sp : Nat → Bool} {held : Bool} {t e : TypeId} {v : Value} {d : DataW H} {p : List MemPlace} {α : Type} {f : α → List Value} {sz : Nat} {R : α → DataW H → Prop}
    (hu : Try.prog.underlying t = some (.slice e)) (hc : Try.prog.cellsOf e = sz) (hs : 0 < sz) (hf : ∀ x, (f x).length = sz) (h1 : ∀ x, ∀ u ∈ f x, u.oneCell' = true)
    (part : ∀ {n cs y}, DataW.trod enc Try.prog W 0 sp held n e cs = some y → cs.length = sz → ∃ x, R x y.1 ∧ cs = f x)
    {fuel : Nat} (hd : DataW.trod enc Try.prog W 0 sp held fuel t [v] = some (d, p)) :
    ∃ l : List α, (l = [] ∨ ∃ es sp', d = .slice es sp' ∧ ∀ x ∈ l, ∃ dd ∈ es, R x dd) ∧ ReadsSlice W v l.length sz (LC f l) := by
  rcases DataW.trod_slice hu hd with ⟨hcs, _⟩ | ⟨a, len, cap, elems, rest, n, rfl, hcs, hdd, _, hle, hcap, hlen, hel, _⟩
  · simp only [List.cons.injEq, and_true] at hcs
    exact ⟨[], .inl rfl, none, 0, hcs, by simp, by simp [LC], by simp, by simp [LC], by simp [LC]⟩
  · simp only [List.cons.injEq, and_true] at hcs
    have key : ∀ k, k ≤ len → ∃ l : List α, l.length = k ∧ (∀ x ∈ l, ∃ dd ∈ elems.map (·.1), R x dd) ∧ ∀ j u, (LC f l)[j]? = some u → W.cell? (a.add j) = some u := by
      intro k
      induction k with
      | zero => intro _; exact ⟨[], rfl, by simp, by simp [LC]⟩
      | succ k ih =>
        intro hk
        obtain ⟨l, hl, hok, hcell⟩ := ih (by omega)
        have he := hel k (by omega)
        cases hc0 : W.cells? 0 (a.add (k * Try.prog.cellsOf e)) (Try.prog.cellsOf e) with
        | none =>
          rw [hc0] at he
          simp only [Option.bind_none] at he
          have : elems[k]? ≠ none := by simp; omega
          exact absurd he.symm this
        | some cs =>
          rw [hc0] at he
          simp only [Option.bind_some] at he
          obtain ⟨_, hcl, hcc⟩ := World.cells?_some hc0
          have hy : ∃ y, elems[k]? = some y := ⟨_, List.getElem?_eq_getElem (by omega)⟩
          obtain ⟨y, hy⟩ := hy
          rw [hy] at he
          obtain ⟨x, hx, rfl⟩ := part he (by rw [hcl, hc])
          refine ⟨l ++ [x], by simp [hl], ?_, ?_⟩
          · intro z hz
            rcases List.mem_append.1 hz with hz | hz
            · exact hok z hz
            · have hz : z = x := by simpa using hz
              rw [hz]
              exact ⟨y.1, List.mem_map.2 ⟨y, List.mem_of_getElem? hy, rfl⟩, hx⟩
          · intro j u hj
            rw [← LC_app, LC_one] at hj
            have hll := LC_len hf l
            by_cases hjl : j < (LC f l).length
            · rw [List.getElem?_append_left hjl] at hj
              exact hcell j u hj
            · rw [List.getElem?_append_right (by omega)] at hj
              have hjs : j - (LC f l).length < sz := by
                have := (List.getElem?_eq_some_iff.1 hj).1
                rwa [hf] at this
              have h3 := hcc (j - (LC f l).length) (by rw [hc]; exact hjs)
              rw [addr_add_add, hc] at h3
              have e : k * sz + (j - (LC f l).length) = j := by rw [hll, hl] at hjl ⊢; omega
              rw [e, hj] at h3
              exact h3
    obtain ⟨l, hl, hok, hcell⟩ := key len (Nat.le_refl _)
    simp only [Prod.mk.injEq] at hdd
    refine ⟨l, .inr ⟨_, _, hdd.1, hok⟩, some a, cap, by rw [hl]; exact hcs, by rw [hl]; exact hle, LC_len hf l, by simp, ?_, fun _ => ⟨a, rfl, hcell⟩⟩
    intro u hu
    simp only [LC, List.mem_flatMap] at hu
    obtain ⟨x, _, hx⟩ := hu
    exact h1 x u hx
theorem part_slice2 {H : Type} {enc : TypeId × Value → H} {W : World} {sp : Nat → Bool} {held : Bool} {n : Nat} {v : Value} {y : DataW H × List MemPlace} (hf : DataW.trod enc Try.prog W 0 sp held n 22 [v] = some y) :
    ∃ l : List Nat, (∀ x ∈ l, x < W256) ∧ (l.length = 0 ∨ ∃ es sp', y.1 = .slice es sp' ∧ es.length = l.length) ∧ ReadsSlice W v l.length 4 (LC eC l) :=
  open_parts1 (d := y.1) (p := y.2) Try.underlying22 co24 (by decide) eC_len (by intro x u hu; simp [eC] at hu; rcases hu with rfl | rfl | rfl | rfl <;> rfl) part_elem hf
theorem coSlT : Try.prog.cellsOf 22 = 1 := by kernel_rfl
theorem weights_all {H : Type} {P : Program} {e : TypeId} {x : Nat} : ∀ {l : List (DataW H)} {d : DataW H}, d ∈ l → x ∈ d.weights P e → x ∈ DataW.weightsAll P e l
  | d0 :: l, d, hd, hx => by
    simp only [DataW.weightsAll, List.mem_append]
    rcases List.mem_cons.1 hd with rfl | hd
    · exact .inl hx
    · exact .inr (weights_all hd hx)
theorem open_table {H : Type} {enc : TypeId × Value → H} {W : World} {sp : Nat → Bool} {held : Bool} {r : Reach} {b0 : Nat} {v : Value} {d : DataW H} {p : List MemPlace} {ts : List TypeId} {ds : List (DataW H)} {j : Nat}
    (hval : Value.okWide Try.prog W r b0 65 v) (h : DataW.Trod enc Try.prog W 0 sp held 65 v d p) (hsz : (DataW.weightsEach Try.prog ts ds).all (· ≤ reachBytes) = true) (ht : ts[j]? = some 65) (hd : ds[j]? = some d) :
    ∃ (l : List (List Nat)) (y : List Value), (∀ c ∈ l, ∀ x ∈ c, x < W256) ∧ (∀ c ∈ l, c.length * 32 ≤ 140737488351232) ∧ ReadsSlice W v l.length 1 y ∧ TB y l W := by
  have hv := slice_one Try.underlying65 hval
  obtain ⟨fuel, hf⟩ := h
  rw [hv] at hf
  obtain ⟨l, hl, hr⟩ := open_parts2 (α := { x : Value × List Nat // x.1.oneCell' = true }) (f := fun x => [x.1.1])
    (R := fun x dd => (∀ z ∈ x.1.2, z < W256) ∧ (x.1.2.length = 0 ∨ ∃ es sp', dd = .slice es sp' ∧ es.length = x.1.2.length) ∧ ReadsSlice W x.1.1 x.1.2.length 4 (LC eC x.1.2))
    Try.underlying65 coSlT (by decide) (fun _ => rfl) (by intro x u hu; have h0 : u = x.1.1 := (by simpa using hu); rw [h0]; exact x.2)
    (fun {n cs y} hc hlen => by
      match cs, hlen with
      | [c], _ =>
        obtain ⟨q, q1, q2, q3⟩ := part_slice2 hc
        exact ⟨⟨(c, q), (reads_one q3).1⟩, ⟨q1, q2, q3⟩, rfl⟩) hf
  have hall : ∀ x ∈ l, ((∀ z ∈ x.1.2, z < W256) ∧ ReadsSlice W x.1.1 x.1.2.length 4 (LC eC x.1.2)) ∧ x.1.2.length * 32 ≤ 140737488351232 := by
    intro x hx
    rcases hl with rfl | ⟨es, sp', rfl, hl⟩
    · cases hx
    · obtain ⟨dd, hdd, r1, r2, r3⟩ := hl x hx
      refine ⟨⟨r1, r3⟩, ?_⟩
      rcases r2 with r2 | ⟨es2, sp2, rfl, hes⟩
      · rw [r2]; simp
      · have hw : (es2.length + sp2.length) * Try.prog.bytesOf 25 ∈ DataW.weightsEach Try.prog ts ds := by
          refine DataW.weights_mem_each ht hd _ ?_
          simp only [DataW.weights, Try.underlying65]
          refine List.mem_cons_of_mem _ (List.mem_append.2 (.inl (weights_all hdd ?_)))
          simp [DataW.weights, Try.underlying22]
        have h2 := List.all_eq_true.1 hsz _ hw
        have h2 : (es2.length + sp2.length) * Try.prog.bytesOf 25 ≤ reachBytes := by simpa using h2
        rw [byE] at h2
        have h3 : reachBytes = 140737488351232 := rfl
        have h4 : es2.length * 32 ≤ (es2.length + sp2.length) * 32 := Nat.mul_le_mul_right _ (Nat.le_add_right _ _)
        omega
  have hLC : LC (fun x : { x : Value × List Nat // x.1.oneCell' = true } => [x.1.1]) l = l.map fun x => x.1.1 := by
    clear hr hl hall
    induction l with
    | nil => rfl
    | cons x l ih => simp only [LC, List.flatMap_cons, List.map_cons] at ih ⊢; rw [ih]; rfl
  rw [hLC] at hr
  refine ⟨l.map fun x => x.1.2, l.map fun x => x.1.1, ?_, ?_, by rw [List.length_map]; exact hr, by simp, ?_⟩
  · intro c hc
    obtain ⟨x, hx, rfl⟩ := List.mem_map.1 hc
    exact (hall x hx).1.1
  · intro c hc
    obtain ⟨x, hx, rfl⟩ := List.mem_map.1 hc
    exact (hall x hx).2
  · intro i hi
    rw [List.length_map] at hi
    have := (hall l[i] (List.getElem_mem hi)).1.2
    simpa [List.getD_eq_getElem?_getD, hi] using this
/-- Slices that are read stay as they are while only blocks of the machinery are written. -/
theorem reads_keptT {w w' : World} {az : List Arg} {ys : List Value} {y : Value} {n size : Nat} {xs : List Value} (hn : noMv az) (h : ReadsSlice w y n size xs) (f : Fr w w' (fun b => moved az ys b ∨ False ∨ aside w b)) : ReadsSlice w' y n size xs := by
  obtain ⟨o, cap, rfl, hle, hl, hnil, hone, hr⟩ := h
  refine ⟨o, cap, rfl, hle, hl, hnil, hone, fun hne => ?_⟩
  obtain ⟨a, rfl, hc⟩ := hr hne
  refine ⟨a, rfl, fun j u hu => ?_⟩
  have h1 := hc j u hu
  rw [World.cell?_of_block (w := w) ?_]
  · exact h1
  · refine f.block _ (World.block_lt_of_cell? w _ h1) ?_
    rintro (hm | hm | ⟨o, ho, hs⟩)
    · exact moved_val hn hm
    · exact hm
    · unfold World.cell? at h1
      rw [ho] at h1
      cases o <;> first | (cases h1; done) | cases hs
theorem TB_kept {w w' : World} {az : List Arg} {zs : List Value} {ys : List Value} {ls : List (List Nat)} (hn : noMv az) (h : TB ys ls w) (f : Fr w w' (fun b => moved az zs b ∨ False ∨ aside w b)) : TB ys ls w' := ⟨h.1, fun i hi => reads_keptT hn (h.2 i hi) f⟩
end Go.Sx
