/-
  slices.Delete at elements. No conditions.
-/
import Derived.Test.YtmjhaopkhceegaaZLkg
import Derived.Deep.RegionLaw
import Derived.Lib.SliceRun
import Derived.WalkKit
import Derived.Deep.LoopGhost
import Derived.Lib.Walk
namespace Go.Sx
open Go.Proofs Go.Num Go.RowKit Go.Lib
set_option maxRecDepth 100000
theorem setCells_row {g o e : Nat} {vs : List Value} {cur : Array Value} {w : World} (hg : w.heap[g]? = some (.cells cur e (0, 0))) (hl : o + vs.length ≤ cur.size) (h1 : ∀ v ∈ vs, v.oneCell' = true) :
    w.setCells g o vs = w.setRow g (cur.toList.take o ++ vs ++ cur.toList.drop (o + vs.length)).toArray := by
  have a := run_storeCells_at (P := Try.prog) g o e vs 0 cur w hg (by simpa using hl) h1
  have hc : ∀ j, j < vs.length → (w.cell? ⟨g, o + 0 + j, none⟩).isSome = true := fun j hj => by
    rw [cell_of_row w g _ _ e (0, 0) hg, Array.getElem?_eq_getElem (by omega)]; rfl
  have hf : ∀ j, j < vs.length → w.frozen? ⟨g, o + 0 + j, none⟩ = false := fun j hj => by simp [World.frozen?, hg]
  have b := run_storeCells_cells (P := Try.prog) g o vs 0 w hc hf h1
  rw [b] at a
  simpa using a
theorem zero_cells {n : Nat} : (Builtin.zeroCells #[u64 0, u64 0, u64 0, u64 0] n).toList = LC eC (List.replicate n 0) := eL_mk
theorem run_clearE (w : World) (ty : TypeId) (g o k c : Nat) (hc : ∀ j, j < (k + 1) * 4 → (w.cell? ⟨g, o + j, none⟩).isSome = true) (hf : ∀ j, j < (k + 1) * 4 → w.frozen? ⟨g, o + j, none⟩ = false) :
    (Builtin.clear_ #[25] ty #[.slice (some ⟨g, o, none⟩) (k + 1) c]).run Try.prog w = .ok (.tuple #[]) (w.setCells g o (LC eC (List.replicate (k + 1) 0))) := by
  have hl : (LC eC (List.replicate (k + 1) 0)).length = (k + 1) * 4 := by rw [eL_len, List.length_replicate]
  have hst := run_storeCells_cells (P := Try.prog) g o (LC eC (List.replicate (k + 1) 0)) 0 w (by rw [hl]; simpa using hc) (by rw [hl]; simpa using hf) (List.all_eq_true.1 eL_one)
  simp only [Nat.add_zero] at hst
  have hz : (Builtin.zeroCells (Value.agg #[.int .u64 0, .int .u64 0, .int .u64 0, .int .u64 0]).cells (k + 1)).toList = LC eC (List.replicate (k + 1) 0) := zero_cells
  simp [Builtin.clear_, run_underlying Try.underlying25, Try.zeroValue24, hz, hst]
theorem del_take {l : List Nat} {cur : Array Value} {n i j : Nat} (hn : n = l.length) (hij : i < j) (hj : j ≤ n) (ht : cur.toList.take (n * 4) = LC eC l) :
    ((cur.toList.take (i * 4) ++ LC eC (l.drop j)) ++ cur.toList.drop (i * 4 + (LC eC (l.drop j)).length)).take ((n - (j - i)) * 4) = LC eC (l.take i ++ l.drop j) := by
  have e1 : cur.toList.take (i * 4) = LC eC (l.take i) := by
    rw [← eL_take, ← ht, List.take_take, Nat.min_eq_left (by omega)]
  rw [e1, eL_app]
  have e2 : (n - (j - i)) * 4 = (LC eC (l.take i ++ l.drop j)).length := by
    rw [eL_len, List.length_append, List.length_take, List.length_drop, ← hn, Nat.min_eq_left (by omega)]
    omega
  rw [e2, List.take_left]
theorem u_Delete {l : List Nat} {i j : Nat} (hij : i < j) (hj : j ≤ l.length) (hn : l.length < 4611686018427387904) :
    Contract Try.prog 35 [.mv 24 4 l.length (LC eC l), .val (.int .i64 (i : Nat)), .val (.int .i64 (j : Nat))] [.row 24 4 (l.length - (j - i)) (LC eC (l.take i ++ l.drop j))] := by
  refine .inl ⟨callable_of Try.func35 (by kernel_rfl) (by kernel_rfl), fun w ys hA hap => ?_⟩
  obtain ⟨y1, rfl, ⟨hlen, hrow⟩, hone⟩ : ∃ y1, ys = [y1, .int .i64 (i : Nat), .int .i64 (j : Nat)] ∧ w.ownsRow 0 24 4 y1 l.length (LC eC l) ∧ ∀ u ∈ LC eC l, u.oneCell' = true := by
    match ys, hA with
    | [y1, y2, y3], hA => exact ⟨y1, by rw [hA.2.1, hA.2.2.1], hA.1⟩
  rcases hrow with ⟨_, hz⟩ | ⟨g, cap, cur, rfl, _, hh, hnc, hcm, hcs, ht⟩
  · omega
  · obtain ⟨news, hnews⟩ : ∃ news, news = LC eC (l.drop j) := ⟨_, rfl⟩
    have hnl : news.length = (l.length - j) * 4 := by rw [hnews, eL_len, List.length_drop]
    have hcell : ∀ t, t < cap * 4 → w.drew.cell? ⟨g, t, none⟩ = cur[t]? := fun t ht => by
      show w.cell? _ = _
      rw [cell_of_row w g _ _ _ (0, 0) hh]
    obtain ⟨A, hA2, hsrc⟩ : ∃ A : Addr, (if cap = j then some (⟨g, 0, none⟩ : Addr) else some ⟨g, j * 4, none⟩) = some A ∧ Hid (∀ t u, news[t]? = some u → w.drew.cell? (A.add t) = some u) := by
      by_cases h : cap = j
      · refine ⟨⟨g, 0, none⟩, by simp [h], fun t u hu => ?_⟩
        have h0 : news.length = 0 := by rw [hnl]; omega
        rw [List.length_eq_zero_iff.1 h0] at hu
        simp at hu
      · refine ⟨⟨g, j * 4, none⟩, by simp [h], fun t u hu => ?_⟩
        have ht4 : t < (l.length - j) * 4 := by rw [← hnl]; exact (List.getElem?_eq_some_iff.1 hu).1
        rw [Addr.add_lit, hcell _ (by omega)]
        rw [hnews, ← eL_drop, List.getElem?_drop, ← ht, List.getElem?_take, if_pos (by omega), Array.getElem?_toList] at hu
        exact hu
    have s1 : Hid (news.length = (l.length - j) * 4) := hnl
    have s2 : Hid (∀ u ∈ news, u.oneCell' = true) := by rw [hnews]; exact List.all_eq_true.1 eL_one
    have s3 : Hid (∀ t, t < news.length → (w.drew.cell? ⟨g, 0 + i * 4 + t, none⟩).isSome = true ∧ w.drew.frozen? ⟨g, 0 + i * 4 + t, none⟩ = false) := by
      intro t ht4
      rw [hnl] at ht4
      refine ⟨?_, ?_⟩
      · rw [hcell _ (by omega), Array.getElem?_eq_getElem (by omega)]; rfl
      · show w.frozen? _ = false
        simp [World.frozen?, hh]
    obtain ⟨W1, hW1⟩ : ∃ W1, W1 = w.drew.setCells g (0 + i * 4) news := ⟨_, rfl⟩
    have hW : Hid (W1 = w.drew.setCells g (0 + i * 4) news) := hW1
    have hW1r : W1 = w.drew.setRow g (cur.toList.take (i * 4) ++ news ++ cur.toList.drop (i * 4 + news.length)).toArray := by
      rw [hW1, Nat.zero_add]
      exact setCells_row (w := w.drew) hh (by omega) s2
    obtain ⟨cur1, hc1⟩ : ∃ cur1, cur1 = (cur.toList.take (i * 4) ++ news ++ cur.toList.drop (i * 4 + news.length)).toArray := ⟨_, rfl⟩
    rw [← hc1] at hW1r
    have hh1 : W1.heap[g]? = some (.cells cur1 24 (0, 0)) := by rw [hW1r]; exact setRow_heap w.drew g cur cur1 24 _ hh
    have hs1 : cur1.size = cap * 4 := by
      rw [hc1]
      simp only [List.size_toArray, List.length_append, List.length_take, List.length_drop, Array.length_toList]
      omega
    have hcl : ∀ ty, (Builtin.clear_ #[25] ty #[.slice (some ⟨g, (i + (l.length - j)) * 4, none⟩) (l.length - (i + (l.length - j))) (cap - (i + (l.length - j)))]).run Try.prog W1 = .ok (.tuple #[]) (W1.setCells g ((i + (l.length - j)) * 4) (LC eC (List.replicate (l.length - (i + (l.length - j))) 0))) := by
      intro ty
      obtain ⟨k, hk⟩ : ∃ k, l.length - (i + (l.length - j)) = k + 1 := ⟨j - i - 1, by omega⟩
      rw [hk]
      refine run_clearE W1 ty g _ k _ (fun t ht4 => ?_) (fun t ht4 => ?_)
      · rw [cell_of_row W1 g _ _ _ (0, 0) hh1, Array.getElem?_eq_getElem (by omega)]; rfl
      · simp [World.frozen?, hh1]
    have hic : i ≤ cap := by omega
    have hjc : j ≤ cap := by omega
    have key : Calls Try.prog 35 #[.slice (some ⟨g, 0, none⟩) l.length cap, .int .i64 (i : Nat), .int .i64 (j : Nat)] w fun e w' => e = .returned (.slice (some ⟨g, 0, none⟩) (i + (l.length - j)) cap) ∧ w' = W1.setCells g ((i + (l.length - j)) * 4) (LC eC (List.replicate (l.length - (i + (l.length - j))) 0)) := by
      clear hA hap hlen hone hh hcs ht hcell hW1 hW1r hc1 hh1 hs1
      go_enter Try.func35, Try.ntmps35
      go_wp2_with fail
      go_region_law (refine step_append_room rfl (.tmp 22) (.tmp 25) 25 rfl 24 _ 4 Try.underlying25 rfl rfl g 0 i cap (by simp [Act.eval, Act.put]) A (l.length - j) (cap - j) news (by simp [Act.eval, Act.put]) s1 hsrc s2 (by omega) s3 ?_; rw [← hW])
      go_wp2
      go_ret
      exact ⟨rfl, rfl⟩
    refine key.mono ?_
    rintro ex w' ⟨rfl, rfl⟩
    have en : i + (l.length - j) = l.length - (j - i) := by omega
    have hzl : (LC eC (List.replicate (l.length - (i + (l.length - j))) 0)).length = (j - i) * 4 := by rw [eL_len, List.length_replicate]; congr 1; omega
    have hW2 := setCells_row (o := (i + (l.length - j)) * 4) hh1 (vs := LC eC (List.replicate (l.length - (i + (l.length - j))) 0)) (by omega) (List.all_eq_true.1 eL_one)
    rw [hW2]
    have hmv : ∀ k, k = g → moved [.mv 24 4 l.length (LC eC l), .val (.int .i64 (i : Nat)), .val (.int .i64 (j : Nat))] [.slice (some ⟨g, 0, none⟩) l.length cap, .int .i64 (i : Nat), .int .i64 (j : Nat)] k := by rintro k rfl; exact .inl rfl
    refine ⟨[_], rfl, ?_, ⟨⟨⟨?_, .inr ⟨g, cap, _, by rw [en], Nat.zero_le _, setRow_heap W1 g cur1 _ 24 _ hh1, by omega, hcm, ?_, ?_⟩⟩, List.all_eq_true.1 eL_one, fun b hb => ?_⟩, trivial, fun _ _ _ _ h => by cases h⟩, ?_⟩
    · refine (Fr.setRow W1 g _).below ?_ hmv
      rw [hW1r]
      exact (Fr.setRow w.drew g cur1).below (Fr.refl w _).drew hmv
    · rw [eL_len, List.length_append, List.length_take, List.length_drop, Nat.min_eq_left (by omega)]; omega
    · simp only [List.size_toArray, List.length_append, List.length_take, List.length_drop, Array.length_toList, hzl]
      omega
    · have hs1' : cur1.toList.length = cap * 4 := by rw [Array.length_toList]; exact hs1
      have ht2 : (cur1.toList.take ((i + (l.length - j)) * 4)).length = (l.length - (j - i)) * 4 := by rw [List.length_take, hs1', ← en]; omega
      show List.take ((l.length - (j - i)) * 4) (cur1.toList.take ((i + (l.length - j)) * 4) ++ LC eC (List.replicate (l.length - (i + (l.length - j))) 0) ++ _) = _
      rw [List.append_assoc, ← ht2, List.take_left, hc1, hnews, en]
      exact del_take rfl hij hj ht
    · right
      have : g = b := by simpa [Value.ownBlock] using hb
      exact hmv b this.symm
    · intro q a y ha hy
      rcases q with _ | _ | _ | q <;> simp at ha <;> subst ha <;> exact ⟨trivial, fun h => by cases h⟩
end Go.Sx
