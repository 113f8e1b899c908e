/-
  Worlds of the kit's sort, over elements of four cells, told as rows of numbers. No conditions.
-/
import Derived.Test.YtmjhaopkhceegaaZLkb
import Derived.Test.YtmjhaopkhceegaaZFieldA
import Derived.Shelf.GgSortFunc.InsertionK
namespace Go.Sx
open Go.Proofs Go.Sort
/-- An element as a number below W256. -/
structure EW where
  v : Nat
  h : v < W256
instance : Inhabited EW := ⟨⟨0, by decide⟩⟩
def eW (x : EW) : List Value := eC x.v
theorem eW_len (x : EW) : (eW x).length = 4 := rfl
theorem eW_one (x : EW) : ∀ u ∈ eW x, u.oneCell' = true := by
  intro u hu
  simp only [eW, eC, List.mem_cons, List.not_mem_nil, or_false] at hu
  rcases hu with rfl | rfl | rfl | rfl <;> rfl
theorem LC_get {l : List Nat} {q r : Nat} (hq : q < l.length) (hr : r < 4) : (LC eC l)[q * 4 + r]? = (eC (l.getD q 0))[r]? := by
  rw [← List.getElem?_drop, eL_drop, drop_at hq, LC_cons]
  exact List.getElem?_append_left (by rw [eC_len]; omega)
theorem flat_eW (d : Array EW) : (flatK eW 4 d).toList = LC eC (d.toList.map (·.v)) := by
  have hl : (LC eC (d.toList.map (·.v))).length = d.size * 4 := by rw [eL_len, List.length_map, Array.length_toList]
  apply List.ext_getElem?
  intro t
  by_cases ht : t < d.size * 4
  · have hq : t / 4 < d.size := by omega
    have e1 : (flatK eW 4 d).toList[t]? = some ((flatK eW 4 d)[t]!) := by
      have h' : t < (flatK eW 4 d).size := by rw [size_flatK]; exact ht
      rw [Array.getElem?_toList, Array.getElem?_eq_getElem h', getElem!_pos _ t h']
    have e2 := LC_get (l := d.toList.map (·.v)) (q := t / 4) (r := t % 4) (by rw [List.length_map, Array.length_toList]; exact hq) (by omega)
    rw [show t / 4 * 4 + t % 4 = t by omega] at e2
    have e3 : (d.toList.map (·.v)).getD (t / 4) 0 = (d[t / 4]!).v := by
      rw [getElem!_pos d _ hq, List.getD_eq_getElem?_getD, List.getElem?_map, Array.getElem?_toList, Array.getElem?_eq_getElem hq]
      rfl
    have h4 : t % 4 < (eW d[t / 4]!).length := by rw [eW_len]; omega
    rw [e1, e2, e3, get_flatK _ _ _ _ ht, getElem!_pos (eW d[t / 4]!) (t % 4) h4]
    exact (List.getElem?_eq_getElem h4).symm
  · rw [List.getElem?_eq_none (by rw [Array.length_toList, size_flatK]; omega), List.getElem?_eq_none (by omega)]
theorem put_take (F cur : Array Value) (h : F.size ≤ cur.size) : (putCells id 0 F cur).toList.take F.size = F.toList := by
  apply List.ext_getElem?
  intro t
  rw [List.getElem?_take]
  by_cases ht : t < F.size
  · have hc : t < cur.size := by omega
    rw [if_pos ht]
    simp only [putCells, Array.getElem?_toList, Array.getElem?_mapIdx, Array.getElem?_eq_getElem hc, Option.map_some, Nat.zero_le, true_and, Nat.zero_add, if_pos ht, Nat.sub_zero, id]
    rw [getElem!_pos F t ht, Array.getElem?_eq_getElem ht]
  · rw [if_neg ht, List.getElem?_eq_none (by rw [Array.length_toList]; omega)]
theorem put_size (F cur : Array Value) : (putCells id 0 F cur).size = cur.size := by simp [putCells]
theorem sortW_heap {w : World} {g m : Nat} {dd : Array EW} {os : Array Obj} : (sortWorldK eW 4 w g 0 m dd os).heap = w.heap.modify g (onCells (putCells id 0 (flatK eW 4 dd))) ++ os := rfl
theorem sortW_fr {w : World} {g m : Nat} {dd : Array EW} {os : Array Obj} {bs : Nat → Prop} (hb : bs g) : Fr w (sortWorldK eW 4 w g 0 m dd os) bs := by
  refine ⟨rfl, rfl, rfl, ?_, Nat.le_add_right _ _, fun k hk hn => ?_⟩
  · rw [sortW_heap]; simp
  · rw [sortW_heap, Array.getElem?_append_left (by simpa using hk), Array.getElem?_modify, if_neg (fun (e : g = k) => hn (e ▸ hb))]
theorem sortW_row {w : World} {g m : Nat} {dd : Array EW} {os : Array Obj} {cur : Array Value} {e : TypeId} (hh : w.heap[g]? = some (.cells cur e (0, 0))) :
    (sortWorldK eW 4 w g 0 m dd os).heap[g]? = some (.cells (putCells id 0 (flatK eW 4 dd) cur) e (0, 0)) := by
  have hg : g < w.heap.size := (Array.getElem?_eq_some_iff.1 hh).1
  rw [sortW_heap, Array.getElem?_append_left (by simpa using hg), Array.getElem?_modify, if_pos rfl, hh]
  rfl
/-- A row holds what the sort's kit asks for. -/
theorem row_holds {w : World} {g n : Nat} {cur : Array Value} {e : TypeId} {d : Array EW} (hh : w.heap[g]? = some (.cells cur e (0, 0))) (hn : d.size = n) (ht : cur.toList.take (n * 4) = LC eC (d.toList.map (·.v))) : HoldsK eW 4 w g 0 d := by
  intro j hj
  rw [size_flatK, hn] at hj
  rw [Nat.zero_add, cell_of_row w g _ _ e (0, 0) hh]
  have h' : j < (flatK eW 4 d).size := by rw [size_flatK, hn]; exact hj
  have e1 : cur[j]? = (flatK eW 4 d).toList[j]? := by rw [flat_eW, ← ht, List.getElem?_take, if_pos hj, Array.getElem?_toList]
  refine ⟨?_, ?_⟩
  · rw [e1, Array.getElem?_toList, Array.getElem?_eq_getElem h', getElem!_pos _ j h']; rfl
  · simp [World.frozen?, hh]
end Go.Sx
