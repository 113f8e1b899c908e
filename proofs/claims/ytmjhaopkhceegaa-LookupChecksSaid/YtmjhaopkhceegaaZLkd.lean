/-
  slices.SortFunc at elements: the row holds the rising list. From the kit's summary. No conditions.
-/
import Derived.Test.YtmjhaopkhceegaaZLkc
import Derived.Shelf.SlSortCmp.NoneTotal
namespace Go.Sx
open Go.Proofs Go.Sort Go.Shelf Go.Lib Go.RowKit
def cfW (x y : EW) : Int := if x.v < y.v then -1 else if y.v < x.v then 1 else 0
theorem ltOf_cfW (x y : EW) : ltOf cfW x y = ltN x.v y.v := by
  unfold ltOf cfW ltN
  by_cases h : x.v < y.v
  · simp [h]
  · by_cases h2 : y.v < x.v <;> simp [h, h2]
theorem swo_cfW : SWO (ltOf cfW) where
  irrefl x := by rw [ltOf_cfW]; exact swo_ltN.irrefl _
  trans x y z h1 h2 := by rw [ltOf_cfW] at *; exact swo_ltN.trans _ _ _ h1 h2
  ntrans x y z h1 h2 := by rw [ltOf_cfW] at *; exact swo_ltN.ntrans _ _ _ h1 h2
theorem sorted_asc {d d' : Array EW} (hp : PermIn 0 d.size d d') (hs : SortedIn (ltOf cfW) 0 d.size d') : d'.toList.map (·.v) = asc (d.toList.map (·.v)) := by
  obtain ⟨hsz, _, hperm⟩ := hp
  have e1 : d'.extract 0 d.size = d' := by rw [← hsz]; exact Array.extract_size
  rw [e1, Array.extract_size] at hperm
  refine asc_uniq (hperm.map _) ?_
  rw [List.pairwise_map, List.pairwise_iff_getElem]
  intro i j hi hj hij
  have hi' : i < d'.size := by simpa using hi
  have hj' : j < d'.size := by simpa using hj
  have := hs i j (Nat.zero_le _) hij (by omega)
  rw [getElem!_pos d' j hj', getElem!_pos d' i hi', ltOf_cfW] at this
  simp only [ltN, decide_eq_false_iff_not, Nat.not_lt] at this
  simpa using this
theorem ios_one {w' : World} {e n : Nat} {xs ys : List Value} {y1 y2 : Value} {f : Nat} (h : w'.ownsRow 0 e 4 y1 n ys) (h1 : ∀ u ∈ ys, u.oneCell' = true) : iosOK w' [.io e 4 n xs ys, .fv f] [y1, y2] [] [] := by
  intro i a y ha hy
  match i, ha, hy with
  | 0, ha, hy =>
    simp only [List.getElem?_cons_zero, Option.some.injEq] at ha hy
    subst ha hy
    exact ⟨⟨h, h1⟩, fun _ b _ j r z hr => by simp at hr⟩
  | 1, ha, hy =>
    simp only [List.getElem?_cons_succ, List.getElem?_cons_zero, Option.some.injEq] at ha hy
    subst ha hy
    exact ⟨trivial, fun _ b _ j r z hr => by simp at hr⟩
  | i + 2, ha, _ => simp at ha
theorem sort_contract {P : Program} {ρ : Ren} (L : SlLaysF0.n6 P ρ) {cmp e : Nat} (aE : ∀ w, (isAgg (ρ.t 24)).run P w = .ok true w) (zE : ∀ w, (Go.sizeOf (ρ.t 24)).run P w = .ok 4 w)
    (eg : ∀ args w, (callFunc cmp args).run P w = .ok (.enter cmp args) w) (hcmp : ∀ blk size w, CmpLays P cmp #[] eW 4 cfW blk 0 size w) (hcal : callable P (ρ.f 6))
    {l : List Nat} (hl : ∀ x ∈ l, x < W256) (hn : l.length < 4611686018427387904) :
    Contract P (ρ.f 6) [.io e 4 l.length (LC eC l) (LC eC (asc l)), .fv cmp] [] := by
  refine .inl ⟨hcal, fun w ys hA hap => ?_⟩
  obtain ⟨y1, y2, rfl⟩ : ∃ y1 y2, ys = [y1, y2] := by
    match ys, hA with
    | [y1, y2], _ => exact ⟨_, _, rfl⟩
  obtain ⟨⟨⟨hlen, hrow⟩, hone⟩, hy2, _⟩ := hA
  have hy2 : y2 = .func (.func cmp) #[] #[] := hy2
  subst hy2
  have ho : ∀ u ∈ LC eC (asc l), u.oneCell' = true := List.all_eq_true.1 eL_one
  by_cases h0 : l.length = 0
  · obtain rfl : l = [] := List.length_eq_zero_iff.1 h0
    have hs : asc [] = [] := List.length_eq_zero_iff.1 (asc_len [])
    obtain ⟨p, cap, rfl⟩ : ∃ p cap, y1 = .slice p 0 cap := by
      rcases hrow with ⟨h, _⟩ | ⟨g, cap, cur, h, _⟩
      · exact ⟨_, _, h⟩
      · exact ⟨_, _, h⟩
    refine (AnyF.slices_SortFunc_none L p cap (.func (.func cmp) #[] #[]) w).mono ?_
    rintro ex w' ⟨rfl, rfl⟩
    refine ⟨[], rfl, Fr.refl _ _, trivial, ?_⟩
    rw [hs]
    exact ios_one ⟨hlen, hrow⟩ (by simp [LC])
  · rcases hrow with ⟨_, hz⟩ | ⟨g, cap, cur, rfl, _, hh, hnc, hcm, hcs, ht⟩
    · exact absurd hz h0
    · obtain ⟨d, hd⟩ : ∃ d : Array EW, d.toList.map (·.v) = l := ⟨(l.attach.map fun x => (⟨x.1, hl x.1 x.2⟩ : EW)).toArray, by simp [List.map_map, Function.comp_def]⟩
      have hs : d.size = l.length := by rw [← hd, List.length_map, Array.length_toList]
      have H := AnyQ.slices_SortFunc L 4 aE zE eW eW_len eW_one cfW swo_cfW cmp #[] g 0 cap d w eg (hcmp g d.size w) (row_holds hh hs (by rw [hd]; exact ht)) (Array.getElem?_eq_some_iff.1 hh).1 (by rw [hs]; exact hn)
      have hs' : (Value.slice (some ⟨g, 0, none⟩) d.size cap) = .slice (some ⟨g, 0, none⟩) l.length cap := by rw [hs]
      rw [hs'] at H
      refine H.mono ?_
      rintro ex w' ⟨rfl, d', m, os, hp, hso, rfl⟩
      have hd' := sorted_asc hp hso
      rw [hd] at hd'
      refine ⟨[], rfl, sortW_fr (.inl rfl), trivial, ?_⟩
      have hsz : d'.size = l.length := hp.1.trans hs
      refine ios_one ⟨?_, .inr ⟨g, cap, _, rfl, Nat.zero_le _, sortW_row hh, hnc, hcm, by rw [put_size]; exact hcs, ?_⟩⟩ ho
      · rw [eL_len, asc_len]
      · have e1 : l.length * 4 = (flatK eW 4 d').size := by rw [size_flatK, hsz]
        have hc4 : l.length * 4 ≤ cap * 4 := Nat.mul_le_mul_right 4 hnc
        rw [e1, put_take _ _ (by rw [← e1, hcs]; exact hc4), flat_eW, hd']
end Go.Sx
