/-
  Tables: a row of slices, each known by its value, of which it is known what it shows. No conditions.
-/
import Derived.Test.YtgeliidjmefkgaaZFae
import Derived.Test.YtgeliidjmefkgaaZAut
import Derived.Test.YtgeliidjmefkgaaZFieldA
namespace Go.Sx
section
variable {P : Program}
/-- A fact that the facts imply takes a fact's place. -/
theorem St.fuse {st : St} (k : Nat) {rt0 rt : Bool} {F0 F : World → Prop} (hk : st.m.get k = some (.fact rt0 F0)) (h : ents st.m.get rt F) : St.le st ⟨st.t, upE [(k, .fact rt F)] st.m, st.n⟩ := by
  intro g ρ a w ⟨w0, hx, hs, hid⟩
  have hkey : ∀ j e', (upE [(k, .fact rt F)] st.m).get j = some e' → (j = k ∧ e' = .fact rt F) ∨ (j ≠ k ∧ st.m.get j = some e') := by
    intro j e' hj
    rw [get_up1] at hj
    split at hj
    · rw [hk] at hj
      simp only [Option.map_some, Option.some.injEq] at hj
      exact .inl ⟨by assumption, hj.symm⟩
    · exact .inr ⟨by assumption, hj⟩
  have hl : ∀ j, (st.m.get j).isSome = true → ((upE [(k, .fact rt F)] st.m).get j).isSome = true ∧ ρ j = ρ j := by
    intro j hj
    refine ⟨?_, rfl⟩
    rw [get_up1]
    split
    · rw [hk]; rfl
    · exact hj
  refine ⟨ρ, w0, hx, ⟨hs.below, ⟨fun j e' hj => ?_, fun j cs hj => ?_, fun j i' l hj => ?_, fun j e' j' e2' hj hf hj' hne => ?_, fun j rt1 F1 hj w3 h3 => ?_⟩, fun j => (hs.slot j).mono hl, hs.size, hs.defers⟩, fun j hj => ?_⟩
  · rcases hkey j e' hj with ⟨_, rfl⟩ | ⟨_, hq⟩
    · trivial
    · exact hs.mem.ent j e' hq
  · rcases hkey j _ hj with ⟨_, h0⟩ | ⟨hjk, hq⟩
    · cases h0
    · exact hs.mem.hdr_keep (Fr.refl w fun _ => False) hl hq (fun _ _ x => x)
  · rcases hkey j _ hj with ⟨_, h0⟩ | ⟨hjk, hq⟩
    · cases h0
    · exact hs.mem.sav_keep hl hq
  · rcases hkey j e' hj with ⟨_, h0⟩ | ⟨hjk, hq⟩
    · rw [h0] at hf; simp [Ent.fresh] at hf
    · rcases hkey j' e2' hj' with ⟨_, h0⟩ | ⟨hjk', hq'⟩
      · rw [h0]
        cases hb : e'.blk (ρ j) with
        | none => exact .inl rfl
        | some b => exact .inr (by simp [Ent.blk])
      · exact hs.mem.apart j e' j' e2' hq hf hq' hne
  · rcases hkey j _ hj with ⟨_, h0⟩ | ⟨hjk, hq⟩
    · simp only [Ent.fact.injEq] at h0
      obtain ⟨rfl, rfl⟩ := h0
      exact ents_at hs.mem h h3
    · exact hs.mem.fct j rt1 F1 hq w3 h3
  · show j < st.n
    rw [get_up1] at hj
    split at hj
    · rename_i hjk; rw [hjk]; exact hid k (by rw [hk]; rfl)
    · exact hid j hj
/-- A table's columns show these lists. -/
def TB (ys : List Value) (ls : List (List Nat)) (w : World) : Prop := ys.length = ls.length ∧ ∀ i, i < ls.length → ReadsSlice w (ys.getD i undef) (ls.getD i []).length 4 (LC eC (ls.getD i []))
theorem TB_nil (w : World) : TB [] [] w := ⟨rfl, fun _ h => by cases h⟩
theorem TB_snoc {ys : List Value} {ls : List (List Nat)} {y : Value} {l : List Nat} {w : World} (h : TB ys ls w) (h2 : ReadsSlice w y l.length 4 (LC eC l)) : TB (ys ++ [y]) (ls ++ [l]) w := by
  obtain ⟨h0, h1⟩ := h
  refine ⟨by simp [h0], fun i hi => ?_⟩
  rw [List.length_append, List.length_singleton] at hi
  by_cases hl : i < ls.length
  · have := h1 i hl
    rwa [List.getD_eq_getElem?_getD, List.getD_eq_getElem?_getD, List.getElem?_append_left (by omega), List.getElem?_append_left hl, ← List.getD_eq_getElem?_getD, ← List.getD_eq_getElem?_getD]
  · have hi : i = ls.length := by omega
    subst hi
    rw [List.getD_eq_getElem?_getD, List.getD_eq_getElem?_getD, List.getElem?_append_right (by omega), List.getElem?_append_right (Nat.le_refl _), h0, Nat.sub_self]
    exact h2
theorem TB_at {ys : List Value} {ls : List (List Nat)} {i : Nat} {w : World} (h : TB ys ls w) (hi : i < ls.length) : ReadsSlice w (ys.getD i undef) (ls.getD i []).length 4 (LC eC (ls.getD i [])) := h.2 i hi
theorem tk_tab {ls : List (List Nat)} {i : Nat} (h : i < ls.length) : ls.take i ++ [ls.getD i []] = ls.take (i + 1) := by
  rw [List.take_add_one, List.getD_eq_getElem?_getD, List.getElem?_eq_getElem h]; rfl
/-- Each column shows its list somewhere. -/
def XB (ys : List Value) (ls : List (List Nat)) : Prop := ys.length = ls.length ∧ ∀ i, i < ls.length → ∃ w, ReadsSlice w (ys.getD i undef) (ls.getD i []).length 4 (LC eC (ls.getD i []))
theorem TB.xb {ys : List Value} {ls : List (List Nat)} {w : World} (h : TB ys ls w) : XB ys ls := ⟨h.1, fun i hi => ⟨w, h.2 i hi⟩⟩
theorem XB_nil : XB [] [] := ⟨rfl, fun _ h => by cases h⟩
theorem XB_snoc {ys : List Value} {ls : List (List Nat)} {y : Value} {l : List Nat} (h : XB ys ls) (h2 : ∃ w, ReadsSlice w y l.length 4 (LC eC l)) : XB (ys ++ [y]) (ls ++ [l]) := by
  obtain ⟨h0, h1⟩ := h
  refine ⟨by simp [h0], fun i hi => ?_⟩
  rw [List.length_append, List.length_singleton] at hi
  by_cases hl : i < ls.length
  · have := h1 i hl
    rwa [List.getD_eq_getElem?_getD, List.getD_eq_getElem?_getD, List.getElem?_append_left (by omega), List.getElem?_append_left hl, ← List.getD_eq_getElem?_getD, ← List.getD_eq_getElem?_getD]
  · have hi : i = ls.length := by omega
    subst hi
    rw [List.getD_eq_getElem?_getD, List.getD_eq_getElem?_getD, List.getElem?_append_right (by omega), List.getElem?_append_right (Nat.le_refl _), h0, Nat.sub_self]
    exact h2
theorem sv_dead : savOf .dead = none := rfl
end
end Go.Sx
