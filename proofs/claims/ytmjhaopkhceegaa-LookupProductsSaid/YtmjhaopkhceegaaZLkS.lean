/-
  Worlds of the kit's sort, over elements of four cells, told as rows of numbers. slices.SortFunc at elements: the row holds the rising list. From the kit's summary. lookup.compare, and slices.SortFunc with it. slices.BinarySearchFunc with lookup.compare: the first place whose value is not less. slices.Clone at elements. slices.Delete at elements. lookup.rising: residues, rising. No conditions.
-/
import Derived.Test.YtmjhaopkhceegaaZLkP
import Derived.Test.YtmjhaopkhceegaaZFieldA
import Derived.Shelf.GgSortFunc.InsertionK
import Derived.Shelf.SlSortCmp.NoneTotal
import Derived.Test.YtmjhaopkhceegaaZDed
import Derived.Ground.SlsfProg
import Derived.Shelf.SlGeneric
import Derived.Deep.RegionLaw
import Derived.Lib.SliceRun
import Derived.WalkKit
import Derived.Deep.LoopGhost
import Derived.Lib.Walk
namespace Go.Sx
open Go.Proofs Go.Sort
/-- An element as a number below W256. -/
structure EW where
  v : Nat
  h : v < W256
instance : Inhabited EW := ⟨⟨0, by decide⟩⟩
def eW (x : EW) : List Value := eC x.v
theorem eW_len (x : EW) : (eW x).length = 4 := rfl
theorem eW_one (x : EW) : ∀ u ∈ eW x, u.oneCell' = true := by
  intro u hu
  simp only [eW, eC, List.mem_cons, List.not_mem_nil, or_false] at hu
  rcases hu with rfl | rfl | rfl | rfl <;> rfl
theorem LC_get {l : List Nat} {q r : Nat} (hq : q < l.length) (hr : r < 4) : (LC eC l)[q * 4 + r]? = (eC (l.getD q 0))[r]? := by
  rw [← List.getElem?_drop, eL_drop, drop_at hq, LC_cons]
  exact List.getElem?_append_left (by rw [eC_len]; omega)
theorem flat_eW (d : Array EW) : (flatK eW 4 d).toList = LC eC (d.toList.map (·.v)) := by
  have hl : (LC eC (d.toList.map (·.v))).length = d.size * 4 := by rw [eL_len, List.length_map, Array.length_toList]
  apply List.ext_getElem?
  intro t
  by_cases ht : t < d.size * 4
  · have hq : t / 4 < d.size := by omega
    have e1 : (flatK eW 4 d).toList[t]? = some ((flatK eW 4 d)[t]!) := by
      have h' : t < (flatK eW 4 d).size := by rw [size_flatK]; exact ht
      rw [Array.getElem?_toList, Array.getElem?_eq_getElem h', getElem!_pos _ t h']
    have e2 := LC_get (l := d.toList.map (·.v)) (q := t / 4) (r := t % 4) (by rw [List.length_map, Array.length_toList]; exact hq) (by omega)
    rw [show t / 4 * 4 + t % 4 = t by omega] at e2
    have e3 : (d.toList.map (·.v)).getD (t / 4) 0 = (d[t / 4]!).v := by
      rw [getElem!_pos d _ hq, List.getD_eq_getElem?_getD, List.getElem?_map, Array.getElem?_toList, Array.getElem?_eq_getElem hq]
      rfl
    have h4 : t % 4 < (eW d[t / 4]!).length := by rw [eW_len]; omega
    rw [e1, e2, e3, get_flatK _ _ _ _ ht, getElem!_pos (eW d[t / 4]!) (t % 4) h4]
    exact (List.getElem?_eq_getElem h4).symm
  · rw [List.getElem?_eq_none (by rw [Array.length_toList, size_flatK]; omega), List.getElem?_eq_none (by omega)]
theorem put_take (F cur : Array Value) (h : F.size ≤ cur.size) : (putCells id 0 F cur).toList.take F.size = F.toList := by
  apply List.ext_getElem?
  intro t
  rw [List.getElem?_take]
  by_cases ht : t < F.size
  · have hc : t < cur.size := by omega
    rw [if_pos ht]
    simp only [putCells, Array.getElem?_toList, Array.getElem?_mapIdx, Array.getElem?_eq_getElem hc, Option.map_some, Nat.zero_le, true_and, Nat.zero_add, if_pos ht, Nat.sub_zero, id]
    rw [getElem!_pos F t ht, Array.getElem?_eq_getElem ht]
  · rw [if_neg ht, List.getElem?_eq_none (by rw [Array.length_toList]; omega)]
theorem put_size (F cur : Array Value) : (putCells id 0 F cur).size = cur.size := by simp [putCells]
theorem sortW_heap {w : World} {g m : Nat} {dd : Array EW} {os : Array Obj} : (sortWorldK eW 4 w g 0 m dd os).heap = w.heap.modify g (onCells (putCells id 0 (flatK eW 4 dd))) ++ os := rfl
theorem sortW_fr {w : World} {g m : Nat} {dd : Array EW} {os : Array Obj} {bs : Nat → Prop} (hb : bs g) : Fr w (sortWorldK eW 4 w g 0 m dd os) bs := by
  refine ⟨rfl, rfl, rfl, ?_, Nat.le_add_right _ _, fun k hk hn => ?_⟩
  · rw [sortW_heap]; simp
  · rw [sortW_heap, Array.getElem?_append_left (by simpa using hk), Array.getElem?_modify, if_neg (fun (e : g = k) => hn (e ▸ hb))]
theorem sortW_row {w : World} {g m : Nat} {dd : Array EW} {os : Array Obj} {cur : Array Value} {e : TypeId} (hh : w.heap[g]? = some (.cells cur e (0, 0))) :
    (sortWorldK eW 4 w g 0 m dd os).heap[g]? = some (.cells (putCells id 0 (flatK eW 4 dd) cur) e (0, 0)) := by
  have hg : g < w.heap.size := (Array.getElem?_eq_some_iff.1 hh).1
  rw [sortW_heap, Array.getElem?_append_left (by simpa using hg), Array.getElem?_modify, if_pos rfl, hh]
  rfl
/-- A row holds what the sort's kit asks for. -/
theorem row_holds {w : World} {g n : Nat} {cur : Array Value} {e : TypeId} {d : Array EW} (hh : w.heap[g]? = some (.cells cur e (0, 0))) (hn : d.size = n) (ht : cur.toList.take (n * 4) = LC eC (d.toList.map (·.v))) : HoldsK eW 4 w g 0 d := by
  intro j hj
  rw [size_flatK, hn] at hj
  rw [Nat.zero_add, cell_of_row w g _ _ e (0, 0) hh]
  have h' : j < (flatK eW 4 d).size := by rw [size_flatK, hn]; exact hj
  have e1 : cur[j]? = (flatK eW 4 d).toList[j]? := by rw [flat_eW, ← ht, List.getElem?_take, if_pos hj, Array.getElem?_toList]
  refine ⟨?_, ?_⟩
  · rw [e1, Array.getElem?_toList, Array.getElem?_eq_getElem h', getElem!_pos _ j h']; rfl
  · simp [World.frozen?, hh]
end Go.Sx
namespace Go.Sx
open Go.Proofs Go.Sort Go.Shelf Go.Lib Go.RowKit
def cfW (x y : EW) : Int := if x.v < y.v then -1 else if y.v < x.v then 1 else 0
theorem ltOf_cfW (x y : EW) : ltOf cfW x y = ltN x.v y.v := by
  unfold ltOf cfW ltN
  by_cases h : x.v < y.v
  · simp [h]
  · by_cases h2 : y.v < x.v <;> simp [h, h2]
theorem swo_cfW : SWO (ltOf cfW) where
  irrefl x := by rw [ltOf_cfW]; exact swo_ltN.irrefl _
  trans x y z h1 h2 := by rw [ltOf_cfW] at *; exact swo_ltN.trans _ _ _ h1 h2
  ntrans x y z h1 h2 := by rw [ltOf_cfW] at *; exact swo_ltN.ntrans _ _ _ h1 h2
theorem sorted_asc {d d' : Array EW} (hp : PermIn 0 d.size d d') (hs : SortedIn (ltOf cfW) 0 d.size d') : d'.toList.map (·.v) = asc (d.toList.map (·.v)) := by
  obtain ⟨hsz, _, hperm⟩ := hp
  have e1 : d'.extract 0 d.size = d' := by rw [← hsz]; exact Array.extract_size
  rw [e1, Array.extract_size] at hperm
  refine asc_uniq (hperm.map _) ?_
  rw [List.pairwise_map, List.pairwise_iff_getElem]
  intro i j hi hj hij
  have hi' : i < d'.size := by simpa using hi
  have hj' : j < d'.size := by simpa using hj
  have := hs i j (Nat.zero_le _) hij (by omega)
  rw [getElem!_pos d' j hj', getElem!_pos d' i hi', ltOf_cfW] at this
  simp only [ltN, decide_eq_false_iff_not, Nat.not_lt] at this
  simpa using this
theorem ios_one {w' : World} {e n : Nat} {xs ys : List Value} {y1 y2 : Value} {f : Nat} (h : w'.ownsRow 0 e 4 y1 n ys) (h1 : ∀ u ∈ ys, u.oneCell' = true) : iosOK w' [.io e 4 n xs ys, .fv f] [y1, y2] [] [] := by
  intro i a y ha hy
  match i, ha, hy with
  | 0, ha, hy =>
    simp only [List.getElem?_cons_zero, Option.some.injEq] at ha hy
    subst ha hy
    exact ⟨⟨h, h1⟩, fun _ b _ j r z hr => by simp at hr⟩
  | 1, ha, hy =>
    simp only [List.getElem?_cons_succ, List.getElem?_cons_zero, Option.some.injEq] at ha hy
    subst ha hy
    exact ⟨trivial, fun _ b _ j r z hr => by simp at hr⟩
  | i + 2, ha, _ => simp at ha
theorem sort_contract {P : Program} {ρ : Ren} (L : SlLaysF0.n6 P ρ) {cmp e : Nat} (aE : ∀ w, (isAgg (ρ.t 24)).run P w = .ok true w) (zE : ∀ w, (Go.sizeOf (ρ.t 24)).run P w = .ok 4 w)
    (eg : ∀ args w, (callFunc cmp args).run P w = .ok (.enter cmp args) w) (hcmp : ∀ blk size w, CmpLays P cmp #[] eW 4 cfW blk 0 size w) (hcal : callable P (ρ.f 6))
    {l : List Nat} (hl : ∀ x ∈ l, x < W256) (hn : l.length < 4611686018427387904) :
    Contract P (ρ.f 6) [.io e 4 l.length (LC eC l) (LC eC (asc l)), .fv cmp] [] := by
  refine .inl ⟨hcal, fun w ys C hA hap _ => ?_⟩
  obtain ⟨y1, y2, rfl⟩ : ∃ y1 y2, ys = [y1, y2] := by
    match ys, hA with
    | [y1, y2], _ => exact ⟨_, _, rfl⟩
  obtain ⟨⟨⟨hlen, hrow⟩, hone⟩, hy2, _⟩ := hA
  have hy2 : y2 = .func (.func cmp) #[] #[] := hy2
  subst hy2
  have ho : ∀ u ∈ LC eC (asc l), u.oneCell' = true := List.all_eq_true.1 eL_one
  by_cases h0 : l.length = 0
  · obtain rfl : l = [] := List.length_eq_zero_iff.1 h0
    have hs : asc [] = [] := List.length_eq_zero_iff.1 (asc_len [])
    obtain ⟨p, cap, rfl⟩ : ∃ p cap, y1 = .slice p 0 cap := by
      rcases hrow with ⟨h, _⟩ | ⟨g, cap, cur, h, _⟩
      · exact ⟨_, _, h⟩
      · exact ⟨_, _, h⟩
    refine (AnyF.slices_SortFunc_none L p cap (.func (.func cmp) #[] #[]) w).mono ?_
    rintro ex w' ⟨rfl, rfl⟩
    refine ⟨[], rfl, Fr.refl _ _, trivial, ?_, resF_no (by intro r hr; cases hr)⟩
    rw [hs]
    exact ios_one ⟨hlen, hrow⟩ (by simp [LC])
  · rcases hrow with ⟨_, hz⟩ | ⟨g, cap, cur, rfl, _, hh, hnc, hcm, hcs, ht⟩
    · exact absurd hz h0
    · obtain ⟨d, hd⟩ : ∃ d : Array EW, d.toList.map (·.v) = l := ⟨(l.attach.map fun x => (⟨x.1, hl x.1 x.2⟩ : EW)).toArray, by simp [List.map_map, Function.comp_def]⟩
      have hs : d.size = l.length := by rw [← hd, List.length_map, Array.length_toList]
      have H := AnyQ.slices_SortFunc L 4 aE zE eW eW_len eW_one cfW swo_cfW cmp #[] g 0 cap d w eg (hcmp g d.size w) (row_holds hh hs (by rw [hd]; exact ht)) (Array.getElem?_eq_some_iff.1 hh).1 (by rw [hs]; exact hn)
      have hs' : (Value.slice (some ⟨g, 0, none⟩) d.size cap) = .slice (some ⟨g, 0, none⟩) l.length cap := by rw [hs]
      rw [hs'] at H
      refine H.mono ?_
      rintro ex w' ⟨rfl, d', m, os, hp, hso, rfl⟩
      have hd' := sorted_asc hp hso
      rw [hd] at hd'
      refine ⟨[], rfl, sortW_fr (.inl rfl), trivial, ?_, resF_no (by intro r hr; cases hr)⟩
      have hsz : d'.size = l.length := hp.1.trans hs
      refine ios_one ⟨?_, .inr ⟨g, cap, _, rfl, Nat.zero_le _, sortW_row hh, hnc, hcm, by rw [put_size]; exact hcs, ?_⟩⟩ ho
      · rw [eL_len, asc_len]
      · have e1 : l.length * 4 = (flatK eW 4 d').size := by rw [size_flatK, hsz]
        have hc4 : l.length * 4 ≤ cap * 4 := Nat.mul_le_mul_right 4 hnc
        rw [e1, put_take _ _ (by rw [← e1, hcs]; exact hc4), flat_eW, hd']
end Go.Sx
namespace Go.Proofs
shelf_lay_g SlLaysF0.n6 Slsf 6 at Try 57 as sortLays
end Go.Proofs
namespace Go.Sx
open Go.Proofs Go.Num Go.Sort
-- SY
-- TY: TYX
set_option maxRecDepth 100000
set_option linter.unusedSimpArgs false
set_option pp.deepTerms true
set_option pp.maxSteps 100000
def cmpZ (a b : Nat) : Int := if a < b then -1 else if b < a then 1 else 0
theorem c_compare (a b : Nat) (ha : a < W256) (hb : b < W256) : Contract Try.prog 34 [.val (EN a), .val (EN b)] [.val (.int .i64 (cmpZ a b))] := by
  cases d1 : decide (a < b) with
  | true =>
    have e : cmpZ a b = -1 := if_pos (of_decide_eq_true d1)
    rw [e]
    refine contract_of (N := _) (vars := _) (c := bodyOf Try.f34) Try.func34 (body_eq rfl) rfl rfl (by rfl) mixed _ _ trivial 1000 ?_
    simp only [bodyOf, Try.f34, Option.getD_some, argA, argE, List.length_cons, List.length_nil, Nat.reduceAdd, Nat.reduceSub, List.replicate, List.cons_append, List.nil_append]
    simp only [↓PX, SX, SYX, EY, simprocAttr, TYX]
    refine CallVC.intro (c_Less a b ha hb) ⟨rfl, rfl, trivial⟩ rfl rfl ?_
    simp only [↓PX, SX, SYX, EY, simprocAttr, TYX, d1]
  | false =>
    cases d2 : decide (b < a) with
    | true =>
      have e : cmpZ a b = 1 := by unfold cmpZ; rw [if_neg (of_decide_eq_false d1), if_pos (of_decide_eq_true d2)]
      rw [e]
      refine contract_of (N := _) (vars := _) (c := bodyOf Try.f34) Try.func34 (body_eq rfl) rfl rfl (by rfl) mixed _ _ trivial 1000 ?_
      simp only [bodyOf, Try.f34, Option.getD_some, argA, argE, List.length_cons, List.length_nil, Nat.reduceAdd, Nat.reduceSub, List.replicate, List.cons_append, List.nil_append]
      simp only [↓PX, SX, SYX, EY, simprocAttr, TYX]
      refine CallVC.intro (c_Less a b ha hb) ⟨rfl, rfl, trivial⟩ rfl rfl ?_
      simp only [↓PX, SX, SYX, EY, simprocAttr, TYX, d1]
      refine CallVC.intro (c_Less b a hb ha) ⟨rfl, rfl, trivial⟩ rfl rfl ?_
      simp only [↓PX, SX, SYX, EY, simprocAttr, TYX, d2]
    | false =>
      have e : cmpZ a b = 0 := by unfold cmpZ; rw [if_neg (of_decide_eq_false d1), if_neg (of_decide_eq_false d2)]
      rw [e]
      refine contract_of (N := _) (vars := _) (c := bodyOf Try.f34) Try.func34 (body_eq rfl) rfl rfl (by rfl) mixed _ _ trivial 1000 ?_
      simp only [bodyOf, Try.f34, Option.getD_some, argA, argE, List.length_cons, List.length_nil, Nat.reduceAdd, Nat.reduceSub, List.replicate, List.cons_append, List.nil_append]
      simp only [↓PX, SX, SYX, EY, simprocAttr, TYX]
      refine CallVC.intro (c_Less a b ha hb) ⟨rfl, rfl, trivial⟩ rfl rfl ?_
      simp only [↓PX, SX, SYX, EY, simprocAttr, TYX, d1]
      refine CallVC.intro (c_Less b a hb ha) ⟨rfl, rfl, trivial⟩ rfl rfl ?_
      simp only [↓PX, SX, SYX, EY, simprocAttr, TYX, d2]
/-- A world that is another one with draws and blocks behind it. -/
theorem grow_of_fr {W w' : World} (h : Fr W w' fun _ => False) : ∃ q os', w' = grow (W.drewN q) os' := by
  refine ⟨w'.drawn - W.drawn, w'.heap.extract W.heap.size w'.heap.size, ?_⟩
  have hh : w'.heap = W.heap ++ w'.heap.extract W.heap.size w'.heap.size := by
    apply Array.ext_getElem?
    intro k
    by_cases hk : k < W.heap.size
    · rw [Array.getElem?_append_left hk]; exact h.block k hk (fun x => x)
    · rw [Array.getElem?_append_right (by omega), Array.getElem?_extract]
      by_cases hk2 : k < w'.heap.size
      · rw [if_pos (by omega), Nat.add_sub_cancel' (by omega)]
      · rw [if_neg (by omega), Array.getElem?_eq_none (by omega)]
  obtain ⟨heap, tape, drawn, os, output⟩ := w'
  obtain ⟨heap2, tape2, drawn2, os2, output2⟩ := W
  have h1 := h.os; have h2 := h.tape; have h3 := h.output; have h4 := h.drawn
  simp only at h1 h2 h3 h4 hh
  subst h1 h2 h3
  have h5 : drawn = drawn2 + (drawn - drawn2) := by omega
  show World.mk heap tape drawn os output = World.mk (heap2 ++ heap.extract heap2.size heap.size) tape (drawn2 + (drawn - drawn2)) os output
  rw [← hh, ← h5]
theorem contract1 {f : Nat} {bs : List Arg} {rs : List Res} (hc : Contract Try.prog f bs rs) {fn : Func} (hf : Try.prog.funcs[f]? = some fn) (hb : fn.body.isNone = false) (hn : (fn.name == "runtime.NumGoroutine") = false) : Contract1 Try.prog f bs rs := by
  rcases hc with h | ⟨xs, zs, rfl, rfl, h⟩
  · exact h
  · have := callable_of (P := Try.prog) hf hb hn xs.toArray default
    rw [h default] at this
    cases this
theorem cmp_lays (blk size : Nat) (w : World) : CmpLays Try.prog 34 #[] eW 4 cfW blk 0 size w := by
  intro m os dk _ x y
  have h := (contract1 (c_compare x.v y.v x.h y.h) Try.func34 (by kernel_rfl) (by kernel_rfl)).2 (sortWorldK eW 4 w blk 0 m dk os) [EN x.v, EN y.v] (fun _ => False) ⟨rfl, rfl, trivial⟩ ⟨fun b hb => (by cases hb), fun b hb => (by cases hb), fun b hb => (by cases hb), fun b hb => (by cases hb), trivial⟩ (factsOK_of (by rfl))
  have e : (#[.agg (eW x).toArray, .agg (eW y).toArray] ++ (#[] : Array Value)) = [EN x.v, EN y.v].toArray := by rw [Array.append_empty]; rfl
  rw [e]
  refine h.mono ?_
  rintro ex w' ⟨zs, rfl, hfr, hr, _⟩
  obtain ⟨q, os', hw⟩ := grow_of_fr (hfr.mono (bs' := fun _ => False) (fun k hk => by
    rcases hk with hk | hk | hk
    · cases hk
    · cases hk
    · exact hk))
  refine ⟨?_, q, os', hw⟩
  match zs, hr with
  | [z], hr => exact congrArg Ending.returned hr.1
theorem u_SortFunc {l : List Nat} (hl : ∀ x ∈ l, x < W256) (hn : l.length < 4611686018427387904) :
    Contract Try.prog 57 [.io 24 4 l.length (LC eC l) (LC eC (asc l)), .fv 34] [] :=
  sort_contract (ρ := sortLays_ren) sortLays Try.isAgg24 Try.sizeOf24 (callable_of Try.func34 (by kernel_rfl) (by kernel_rfl)) cmp_lays (callable_of Try.func57 (by kernel_rfl) (by kernel_rfl)) hl hn
end Go.Sx
namespace Go.Sx
open Go.Proofs Go.Num
-- SY
-- TY: TYX
set_option maxRecDepth 100000
set_option linter.unusedSimpArgs false
set_option pp.deepTerms true
set_option pp.maxSteps 100000
theorem cmpZ_neg {a b : Nat} : decide (cmpZ a b < 0) = decide (a < b) := by
  unfold cmpZ
  by_cases h : a < b
  · simp [h]
  · by_cases h2 : b < a <;> simp [h, h2]
theorem cmpZ_eq {a b : Nat} : (cmpZ a b == 0) = decide (a = b) := by
  unfold cmpZ
  by_cases h : a < b
  · have : ¬ a = b := by omega
    simp [h, this]
  · by_cases h2 : b < a
    · have : ¬ a = b := by omega
      simp [h, h2, this]
    · have : a = b := by omega
      simp [this]
theorem u_Search (v : Nat) (l : List Nat) (hv : v < W256) (hl : ∀ x ∈ l, x < W256) (hs : l.Pairwise (· ≤ ·)) (hn : l.length < 4611686018427387904) :
    Contract Try.prog 33 [.sl l.length 4 (LC eC l), .val (EN v), .fv 34] [.val (.int .i64 (lbd v l : Nat)), .val (.bool (decide (v ∈ l)))] := by
  refine contract_of (N := _) (vars := _) (c := bodyOf Try.f33) Try.func33 (body_eq rfl) rfl rfl (by rfl) mixed _ _ trivial 1000 ?_
  simp only [bodyOf, Try.f33, Option.getD_some, argA, argE, List.length_cons, List.length_nil, Nat.reduceAdd, Nat.reduceSub, List.replicate, List.cons_append, List.nil_append]
  simp only [↓PX, SX, SYX, EY, simprocAttr, TYX]
  refine loop_hav ?_
  simp only [↓PX, SX, SYX, EY, simprocAttr, TYX]
  refine loop_go mixed (by trivial) (γ := Nat × Nat) (fun p => p.1 ≤ p.2 ∧ p.2 ≤ l.length ∧ (∀ j, j < p.1 → l.getD j 0 < v) ∧ ∀ j, p.2 ≤ j → j < l.length → v ≤ l.getD j 0) (fun p => p.2 - p.1) (fun p => [(9, iv p.1), (10, iv p.2)]) (fun p => []) (0, l.length) ⟨Nat.zero_le _, Nat.le_refl _, fun j hj => absurd hj (Nat.not_lt_zero _), fun j h1 h2 => absurd h2 (by simp only at h1; omega)⟩ (St.le_of id (by simp [-List.getD_eq_getElem?_getD, SYX, iv, Tle, AVle, A0le, Mem.get]) (by simp [-List.getD_eq_getElem?_getD, SYX, Mle, Ele, Hle, Tle, AVle, A0le, Mem.get]) (by simp [SYX]) (by simp [SYX])) ?_
  intro p hp
  obtain ⟨i, j⟩ := p
  simp only at hp
  obtain ⟨hij, hjl, hlo, hhi⟩ := hp
  simp only
  simp only [↓PX, SX, SYX, EY, simprocAttr, TYX]
  refine cond_split (fun h0 => ?_) (fun h0 => ?_)
  · have h0 : i < j := by simpa using h0
    have w1 : IntKind.i64.wrap ((i : Int) + (j : Int)) = ((i + j : Nat) : Int) := by rw [wI (by omega) (by omega)]; rfl
    have w2 : (((i + j : Nat) : Int) % 18446744073709551616).toNat = i + j := by omega
    have w3 : ushr (i + j) 1 = (i + j) / 2 := by rw [ushr_eq]; rfl
    have w4 : ((((i + j) / 2 : Nat) : Int) + 9223372036854775808) % 18446744073709551616 - 9223372036854775808 = (((i + j) / 2 : Nat) : Int) := by omega
    have hh1 : i ≤ (i + j) / 2 := by omega
    have hh2 : (i + j) / 2 < j := by omega
    generalize (i + j) / 2 = h at w3 w4 hh1 hh2
    have ld := eL_ld (l := l) (j := h) (by omega)
    have hw : l.getD h 0 < W256 := by
      rw [List.getD_eq_getElem?_getD, List.getElem?_eq_getElem (show h < l.length by omega)]
      exact hl _ (List.getElem_mem _)
    simp only [↓PX, SX, SYX, EY, simprocAttr, TYX, w1, w2, w3, w4, ld]
    repeat (first | refine DrawVC.intro (by kernel_rfl) ?_ | refine And.intro (by omega) ?_ | exact trivial)
    refine CloVC.intro (c_compare (l.getD h 0) v hw hv) ⟨rfl, rfl, trivial⟩ rfl rfl ?_
    simp only [↓PX, SX, SYX, EY, simprocAttr, TYX, cmpZ_neg]
    refine cond_split (fun h1 => ?_) (fun h1 => ?_)
    · have h1 : l.getD h 0 < v := by simpa using h1
      have w5 : IntKind.i64.wrap ((h : Int) + 1) = ((h + 1 : Nat) : Int) := wS (by omega)
      simp only [↓PX, SX, SYX, EY, simprocAttr, TYX, w5]
      refine ⟨(h + 1, j), ⟨hh2, hjl, fun t ht => ?_, hhi⟩, ?_, (St.le_of id (by simp [-List.getD_eq_getElem?_getD, SYX, iv, Tle, AVle, A0le, Mem.get]) (by simp [-List.getD_eq_getElem?_getD, SYX, Mle, Ele, Hle, Tle, AVle, A0le, Mem.get]) (by simp [SYX]) (by simp [SYX]))⟩
      · rcases Nat.lt_or_ge t h with h2 | h2
        · have := pw_getD hs h2 (by omega); omega
        · have : t = h := by omega
          rw [this]; exact h1
      · show j - (h + 1) < j - i
        omega
    · have h1 : v ≤ l.getD h 0 := by simpa using h1
      simp only [↓PX, SX, SYX, EY, simprocAttr, TYX]
      refine ⟨(i, h), ⟨hh1, by omega, hlo, fun t ht htl => ?_⟩, ?_, (St.le_of id (by simp [-List.getD_eq_getElem?_getD, SYX, iv, Tle, AVle, A0le, Mem.get]) (by simp [-List.getD_eq_getElem?_getD, SYX, Mle, Ele, Hle, Tle, AVle, A0le, Mem.get]) (by simp [SYX]) (by simp [SYX]))⟩
      · rcases Nat.lt_or_ge h t with h2 | h2
        · have := pw_getD hs h2 htl; omega
        · have : t = h := by omega
          rw [this]; exact h1
      · show h - i < j - i
        omega
  · have h0 : i = j := by
      have : j ≤ i := by simpa using h0
      omega
    subst h0
    have e : i = lbd v l := lbd_uniq hlo hjl (fun h => hhi i (Nat.le_refl _) h)
    subst e
    have ok := lbd_ok (v := v) hs
    cases d1 : decide (((lbd v l : Nat) : Int) < (l.length : Int)) with
    | true =>
      have h1 : lbd v l < l.length := by have := of_decide_eq_true d1; omega
      have ld := eL_ld (l := l) (j := lbd v l) h1
      have hw : l.getD (lbd v l) 0 < W256 := by
        rw [List.getD_eq_getElem?_getD, List.getElem?_eq_getElem h1]
        exact hl _ (List.getElem_mem _)
      have e2 : decide (v ∈ l) = decide (l.getD (lbd v l) 0 = v) := decide_eq_decide.2 (ok.symm.trans ⟨fun h => h.2, fun h => ⟨h1, h⟩⟩)
      simp only [↓PX, SX, SYX, EY, simprocAttr, TYX, d1, ld, e2]
      repeat (first | refine DrawVC.intro (by kernel_rfl) ?_ | refine And.intro (by omega) ?_ | exact trivial)
      refine CloVC.intro (c_compare (l.getD (lbd v l) 0) v hw hv) ⟨rfl, rfl, trivial⟩ rfl rfl ?_
      simp only [↓PX, SX, SYX, EY, simprocAttr, TYX, cmpZ_eq, e2]
    | false =>
      have h1 : ¬ lbd v l < l.length := by have := of_decide_eq_false d1; omega
      have e2 : decide (v ∈ l) = false := decide_eq_false fun h => h1 (ok.2 h).1
      simp only [↓PX, SX, SYX, EY, simprocAttr, TYX, d1, e2]
      repeat (first | refine DrawVC.intro (by kernel_rfl) ?_ | refine And.intro (by omega) ?_ | exact trivial)
end Go.Sx
namespace Go.Sx
open Go.Proofs Go.Num
-- SY
-- TY: TYX
set_option maxRecDepth 100000
set_option linter.unusedSimpArgs false
set_option pp.deepTerms true
set_option pp.maxSteps 100000
end Go.Sx
namespace Go.Sx
open Go.Proofs Go.Num Go.RowKit Go.Lib
set_option maxRecDepth 100000
theorem setCells_row {g o e : Nat} {vs : List Value} {cur : Array Value} {w : World} (hg : w.heap[g]? = some (.cells cur e (0, 0))) (hl : o + vs.length ≤ cur.size) (h1 : ∀ v ∈ vs, v.oneCell' = true) :
    w.setCells g o vs = w.setRow g (cur.toList.take o ++ vs ++ cur.toList.drop (o + vs.length)).toArray := by
  have a := run_storeCells_at (P := Try.prog) g o e vs 0 cur w hg (by simpa using hl) h1
  have hc : ∀ j, j < vs.length → (w.cell? ⟨g, o + 0 + j, none⟩).isSome = true := fun j hj => by
    rw [cell_of_row w g _ _ e (0, 0) hg, Array.getElem?_eq_getElem (by omega)]; rfl
  have hf : ∀ j, j < vs.length → w.frozen? ⟨g, o + 0 + j, none⟩ = false := fun j hj => by simp [World.frozen?, hg]
  have b := run_storeCells_cells (P := Try.prog) g o vs 0 w hc hf h1
  rw [b] at a
  simpa using a
theorem zero_cells {n : Nat} : (Builtin.zeroCells #[u64 0, u64 0, u64 0, u64 0] n).toList = LC eC (List.replicate n 0) := eL_mk
theorem run_clearE (w : World) (ty : TypeId) (g o k c : Nat) (hc : ∀ j, j < (k + 1) * 4 → (w.cell? ⟨g, o + j, none⟩).isSome = true) (hf : ∀ j, j < (k + 1) * 4 → w.frozen? ⟨g, o + j, none⟩ = false) :
    (Builtin.clear_ #[25] ty #[.slice (some ⟨g, o, none⟩) (k + 1) c]).run Try.prog w = .ok (.tuple #[]) (w.setCells g o (LC eC (List.replicate (k + 1) 0))) := by
  have hl : (LC eC (List.replicate (k + 1) 0)).length = (k + 1) * 4 := by rw [eL_len, List.length_replicate]
  have hst := run_storeCells_cells (P := Try.prog) g o (LC eC (List.replicate (k + 1) 0)) 0 w (by rw [hl]; simpa using hc) (by rw [hl]; simpa using hf) (List.all_eq_true.1 eL_one)
  simp only [Nat.add_zero] at hst
  have hz : (Builtin.zeroCells (Value.agg #[.int .u64 0, .int .u64 0, .int .u64 0, .int .u64 0]).cells (k + 1)).toList = LC eC (List.replicate (k + 1) 0) := zero_cells
  simp [Builtin.clear_, run_underlying Try.underlying25, Try.zeroValue24, hz, hst]
theorem del_take {l : List Nat} {cur : Array Value} {n i j : Nat} (hn : n = l.length) (hij : i < j) (hj : j ≤ n) (ht : cur.toList.take (n * 4) = LC eC l) :
    ((cur.toList.take (i * 4) ++ LC eC (l.drop j)) ++ cur.toList.drop (i * 4 + (LC eC (l.drop j)).length)).take ((n - (j - i)) * 4) = LC eC (l.take i ++ l.drop j) := by
  have e1 : cur.toList.take (i * 4) = LC eC (l.take i) := by
    rw [← eL_take, ← ht, List.take_take, Nat.min_eq_left (by omega)]
  rw [e1, eL_app]
  have e2 : (n - (j - i)) * 4 = (LC eC (l.take i ++ l.drop j)).length := by
    rw [eL_len, List.length_append, List.length_take, List.length_drop, ← hn, Nat.min_eq_left (by omega)]
    omega
  rw [e2, List.take_left]
theorem u_Delete {l : List Nat} {i j : Nat} (hij : i < j) (hj : j ≤ l.length) (hn : l.length < 4611686018427387904) :
    Contract Try.prog 35 [.mv 24 4 l.length (LC eC l), .val (.int .i64 (i : Nat)), .val (.int .i64 (j : Nat))] [.row 24 4 (l.length - (j - i)) (LC eC (l.take i ++ l.drop j))] := by
  refine .inl ⟨callable_of Try.func35 (by kernel_rfl) (by kernel_rfl), fun w ys C hA hap _ => ?_⟩
  obtain ⟨y1, rfl, ⟨hlen, hrow⟩, hone⟩ : ∃ y1, ys = [y1, .int .i64 (i : Nat), .int .i64 (j : Nat)] ∧ w.ownsRow 0 24 4 y1 l.length (LC eC l) ∧ ∀ u ∈ LC eC l, u.oneCell' = true := by
    match ys, hA with
    | [y1, y2, y3], hA => exact ⟨y1, by rw [hA.2.1, hA.2.2.1], hA.1⟩
  rcases hrow with ⟨_, hz⟩ | ⟨g, cap, cur, rfl, _, hh, hnc, hcm, hcs, ht⟩
  · omega
  · obtain ⟨news, hnews⟩ : ∃ news, news = LC eC (l.drop j) := ⟨_, rfl⟩
    have hnl : news.length = (l.length - j) * 4 := by rw [hnews, eL_len, List.length_drop]
    have hcell : ∀ t, t < cap * 4 → w.drew.cell? ⟨g, t, none⟩ = cur[t]? := fun t ht => by
      show w.cell? _ = _
      rw [cell_of_row w g _ _ _ (0, 0) hh]
    obtain ⟨A, hA2, hsrc⟩ : ∃ A : Addr, (if cap = j then some (⟨g, 0, none⟩ : Addr) else some ⟨g, j * 4, none⟩) = some A ∧ Hid (∀ t u, news[t]? = some u → w.drew.cell? (A.add t) = some u) := by
      by_cases h : cap = j
      · refine ⟨⟨g, 0, none⟩, by simp [h], fun t u hu => ?_⟩
        have h0 : news.length = 0 := by rw [hnl]; omega
        rw [List.length_eq_zero_iff.1 h0] at hu
        simp at hu
      · refine ⟨⟨g, j * 4, none⟩, by simp [h], fun t u hu => ?_⟩
        have ht4 : t < (l.length - j) * 4 := by rw [← hnl]; exact (List.getElem?_eq_some_iff.1 hu).1
        rw [Addr.add_lit, hcell _ (by omega)]
        rw [hnews, ← eL_drop, List.getElem?_drop, ← ht, List.getElem?_take, if_pos (by omega), Array.getElem?_toList] at hu
        exact hu
    have s1 : Hid (news.length = (l.length - j) * 4) := hnl
    have s2 : Hid (∀ u ∈ news, u.oneCell' = true) := by rw [hnews]; exact List.all_eq_true.1 eL_one
    have s3 : Hid (∀ t, t < news.length → (w.drew.cell? ⟨g, 0 + i * 4 + t, none⟩).isSome = true ∧ w.drew.frozen? ⟨g, 0 + i * 4 + t, none⟩ = false) := by
      intro t ht4
      rw [hnl] at ht4
      refine ⟨?_, ?_⟩
      · rw [hcell _ (by omega), Array.getElem?_eq_getElem (by omega)]; rfl
      · show w.frozen? _ = false
        simp [World.frozen?, hh]
    obtain ⟨W1, hW1⟩ : ∃ W1, W1 = w.drew.setCells g (0 + i * 4) news := ⟨_, rfl⟩
    have hW : Hid (W1 = w.drew.setCells g (0 + i * 4) news) := hW1
    have hW1r : W1 = w.drew.setRow g (cur.toList.take (i * 4) ++ news ++ cur.toList.drop (i * 4 + news.length)).toArray := by
      rw [hW1, Nat.zero_add]
      exact setCells_row (w := w.drew) hh (by omega) s2
    obtain ⟨cur1, hc1⟩ : ∃ cur1, cur1 = (cur.toList.take (i * 4) ++ news ++ cur.toList.drop (i * 4 + news.length)).toArray := ⟨_, rfl⟩
    rw [← hc1] at hW1r
    have hh1 : W1.heap[g]? = some (.cells cur1 24 (0, 0)) := by rw [hW1r]; exact setRow_heap w.drew g cur cur1 24 _ hh
    have hs1 : cur1.size = cap * 4 := by
      rw [hc1]
      simp only [List.size_toArray, List.length_append, List.length_take, List.length_drop, Array.length_toList]
      omega
    have hcl : ∀ ty, (Builtin.clear_ #[25] ty #[.slice (some ⟨g, (i + (l.length - j)) * 4, none⟩) (l.length - (i + (l.length - j))) (cap - (i + (l.length - j)))]).run Try.prog W1 = .ok (.tuple #[]) (W1.setCells g ((i + (l.length - j)) * 4) (LC eC (List.replicate (l.length - (i + (l.length - j))) 0))) := by
      intro ty
      obtain ⟨k, hk⟩ : ∃ k, l.length - (i + (l.length - j)) = k + 1 := ⟨j - i - 1, by omega⟩
      rw [hk]
      refine run_clearE W1 ty g _ k _ (fun t ht4 => ?_) (fun t ht4 => ?_)
      · rw [cell_of_row W1 g _ _ _ (0, 0) hh1, Array.getElem?_eq_getElem (by omega)]; rfl
      · simp [World.frozen?, hh1]
    have hic : i ≤ cap := by omega
    have hjc : j ≤ cap := by omega
    have key : Calls Try.prog 35 #[.slice (some ⟨g, 0, none⟩) l.length cap, .int .i64 (i : Nat), .int .i64 (j : Nat)] w fun e w' => e = .returned (.slice (some ⟨g, 0, none⟩) (i + (l.length - j)) cap) ∧ w' = W1.setCells g ((i + (l.length - j)) * 4) (LC eC (List.replicate (l.length - (i + (l.length - j))) 0)) := by
      clear hA hap hlen hone hh hcs ht hcell hW1 hW1r hc1 hh1 hs1
      go_enter Try.func35, Try.ntmps35
      go_wp2_with fail
      go_region_law (refine step_append_room rfl (.tmp 22) (.tmp 25) 25 rfl 24 _ 4 Try.underlying25 rfl rfl g 0 i cap (by simp [Act.eval, Act.put]) A (l.length - j) (cap - j) news (by simp [Act.eval, Act.put]) s1 hsrc s2 (by omega) s3 ?_; rw [← hW])
      go_wp2
      go_ret
      exact ⟨rfl, rfl⟩
    refine key.mono ?_
    rintro ex w' ⟨rfl, rfl⟩
    have en : i + (l.length - j) = l.length - (j - i) := by omega
    have hzl : (LC eC (List.replicate (l.length - (i + (l.length - j))) 0)).length = (j - i) * 4 := by rw [eL_len, List.length_replicate]; congr 1; omega
    have hW2 := setCells_row (o := (i + (l.length - j)) * 4) hh1 (vs := LC eC (List.replicate (l.length - (i + (l.length - j))) 0)) (by omega) (List.all_eq_true.1 eL_one)
    rw [hW2]
    have hmv : ∀ k, k = g → moved [.mv 24 4 l.length (LC eC l), .val (.int .i64 (i : Nat)), .val (.int .i64 (j : Nat))] [.slice (some ⟨g, 0, none⟩) l.length cap, .int .i64 (i : Nat), .int .i64 (j : Nat)] k := by rintro k rfl; exact .inl rfl
    refine ⟨[_], rfl, ?_, ⟨⟨⟨?_, .inr ⟨g, cap, _, by rw [en], Nat.zero_le _, setRow_heap W1 g cur1 _ 24 _ hh1, by omega, hcm, ?_, ?_⟩⟩, List.all_eq_true.1 eL_one, fun b hb => ?_⟩, trivial, fun _ _ _ _ h => by cases h⟩, ?_, resF_no (by intro r hr; simp at hr; subst hr; rfl)⟩
    · refine (Fr.setRow W1 g _).below ?_ hmv
      rw [hW1r]
      exact (Fr.setRow w.drew g cur1).below (Fr.refl w _).drew hmv
    · rw [eL_len, List.length_append, List.length_take, List.length_drop, Nat.min_eq_left (by omega)]; omega
    · simp only [List.size_toArray, List.length_append, List.length_take, List.length_drop, Array.length_toList, hzl]
      omega
    · have hs1' : cur1.toList.length = cap * 4 := by rw [Array.length_toList]; exact hs1
      have ht2 : (cur1.toList.take ((i + (l.length - j)) * 4)).length = (l.length - (j - i)) * 4 := by rw [List.length_take, hs1', ← en]; omega
      show List.take ((l.length - (j - i)) * 4) (cur1.toList.take ((i + (l.length - j)) * 4) ++ LC eC (List.replicate (l.length - (i + (l.length - j))) 0) ++ _) = _
      rw [List.append_assoc, ← ht2, List.take_left, hc1, hnews, en]
      exact del_take rfl hij hj ht
    · right
      have : g = b := by simpa [Value.ownBlock] using hb
      exact hmv b this.symm
    · intro q a y ha hy
      rcases q with _ | _ | _ | q <;> simp at ha <;> subst ha <;> exact ⟨trivial, fun h => by cases h⟩
end Go.Sx
namespace Go.Sx
open Go.Proofs Go.Num
-- SY
-- TY: TYX, UX, IOX
set_option maxRecDepth 100000
set_option linter.unusedSimpArgs false
set_option pp.deepTerms true
set_option pp.maxSteps 100000
theorem u_rising (s : Int) (l : List Nat) (hl : ∀ x ∈ l, x < W256) (hb : l.length * 32 ≤ 140737488351232) :
    Contract Try.prog 31 [.val (.int .i64 s), .sl l.length 4 (LC eC l)] [.row 24 4 l.length (LC eC (asc (rsd s l)))] := by
  have hr : (rsd s l).length = l.length := List.length_map _
  refine contract_of (N := _) (vars := _) (c := bodyOf Try.f31) Try.func31 (body_eq rfl) rfl rfl (by rfl) mixed _ _ trivial 1000 ?_
  simp only [bodyOf, Try.f31, Option.getD_some, argA, argE, List.length_cons, List.length_nil, Nat.reduceAdd, Nat.reduceSub, List.replicate, List.cons_append, List.nil_append]
  simp only [↓PX, SX, SYX, EY, simprocAttr, TYX, UX, IOX]
  repeat (first | refine DrawVC.intro (by kernel_rfl) ?_ | refine And.intro (by omega) ?_ | exact trivial)
  refine loop_hav ?_
  simp only [↓PX, SX, SYX, EY, simprocAttr, TYX, UX, IOX]
  refine loop_go mixed (by trivial) (γ := Nat) (fun i => i ≤ l.length) (fun i => l.length - i) (fun i => [(13, iv i), (6, .o .any), (7, .o .any)]) (fun i => [(14, .row 24 4 l.length (LC eC (fil l.length (fun j => l.getD j 0 % md s) i)))]) 0 (Nat.zero_le _) (St.le_of id (by simp [-List.getD_eq_getElem?_getD, SYX, iv, Tle, AVle, A0le, Mem.get, fil_0]) (by simp [-List.getD_eq_getElem?_getD, SYX, Mle, Ele, Hle, Tle, AVle, A0le, Mem.get, fil_0]) (by simp [SYX]) (by simp [SYX])) ?_
  intro i hi
  simp only [↓PX, SX, SYX, EY, simprocAttr, TYX, UX, IOX]
  refine cond_split (fun h0 => ?_) (fun h0 => ?_)
  · have h0 : i < l.length := by simpa using h0
    have ld := eL_ld (l := l) (j := i) h0
    have hw : l.getD i 0 < W256 := by
      rw [List.getD_eq_getElem?_getD, List.getElem?_eq_getElem h0]
      exact hl _ (List.getElem_mem _)
    have w5 : IntKind.i64.wrap ((i : Int) + 1) = ((i + 1 : Nat) : Int) := wS (by omega)
    have st := eL_st (l := fil l.length (fun j => l.getD j 0 % md s) i) (j := i) (v := (l.getD i 0 + 0) % md s) (by rw [fil_len]; exact h0)
    rw [Nat.add_zero, fil_set] at st
    simp only [↓PX, SX, SYX, EY, simprocAttr, TYX, UX, IOX, ld]
    repeat (first | refine DrawVC.intro (by kernel_rfl) ?_ | refine And.intro (by omega) ?_ | exact trivial)
    refine CallVC.intro (u_Add s (l.getD i 0) 0 hw (by decide)) ⟨rfl, rfl, rfl, trivial⟩ rfl rfl ?_
    simp only [↓PX, SX, SYX, EY, simprocAttr, TYX, UX, IOX, st, Nat.add_zero, w5]
    exact ⟨⟨by omega, by omega⟩, by rw [fil_len]; omega, i + 1, by omega, by omega, (St.le_of id (by simp [-List.getD_eq_getElem?_getD, SYX, iv, Tle, AVle, A0le, Mem.get]) (by simp [-List.getD_eq_getElem?_getD, SYX, Mle, Ele, Hle, Tle, AVle, A0le, Mem.get]) (by simp [SYX]) (by simp [SYX]))⟩
  · have h0 : i = l.length := by
      have : l.length ≤ i := by simpa using h0
      omega
    subst h0
    have fn : fil l.length (fun j => l.getD j 0 % md s) l.length = rsd s l := fil_n (g := (· % md s))
    have cs := u_SortFunc (l := rsd s l) rsd_w (by rw [hr]; omega)
    rw [hr] at cs
    simp only [↓PX, SX, SYX, EY, simprocAttr, TYX, UX, IOX, fn]
    refine CallVC.give (cs) ⟨rfl, rfl, trivial⟩ rfl (by simp [refs]) ?_
    simp only [↓PX, SX, SYX, EY, simprocAttr, TYX, UX, IOX]
end Go.Sx
