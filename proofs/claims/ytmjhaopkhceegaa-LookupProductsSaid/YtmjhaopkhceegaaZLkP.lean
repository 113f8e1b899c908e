/-
  Numbers in order: what the kit's sort answers is the rising list; inserting one by one answers it too. The matching's loops, as functions of what is left to do. Tables filled one by one, and residues. No conditions.
-/
import Derived.Test.YtmjhaopkhceegaaZFieldA
import Derived.Sort.AssemblyPlain
import Derived.Test.YtmjhaopkhceegaaZAut
import Derived.Test.YtmjhaopkhceegaaZPermA
namespace Go.Sx
open Go.Sort
def ltN (x y : Nat) : Bool := decide (x < y)
theorem swo_ltN : SWO ltN where
  irrefl x := by simp [ltN]
  trans x y z h1 h2 := by simp only [ltN, decide_eq_true_eq] at *; omega
  ntrans x y z h1 h2 := by simp only [ltN, decide_eq_false_iff_not] at *; omega
def asc (l : List Nat) : List Nat := l.mergeSort (fun x y => !ltN y x)
theorem asc_perm (l : List Nat) : (asc l).Perm l := List.mergeSort_perm _ _
theorem le_ltN {x y : Nat} : (!ltN y x) = true ↔ x ≤ y := by simp only [ltN, Bool.not_eq_true', decide_eq_false_iff_not]; omega
theorem asc_pw (l : List Nat) : (asc l).Pairwise (· ≤ ·) := by
  refine (List.pairwise_mergeSort (le := fun x y => !ltN y x) ?_ ?_ l).imp fun h => le_ltN.1 h
  · intro a b c h1 h2
    rw [le_ltN] at *
    omega
  · intro a b
    rcases Nat.le_total a b with h | h
    · rw [le_ltN.2 h]; rfl
    · rw [le_ltN.2 h]; simp
theorem asc_uniq {l r : List Nat} (h : r.Perm l) (hs : r.Pairwise (· ≤ ·)) : r = asc l :=
  List.Perm.eq_of_pairwise (le := (· ≤ ·)) (fun a b _ _ h1 h2 => Nat.le_antisymm h1 h2) hs (asc_pw l) (h.trans (asc_perm l).symm)
theorem asc_len (l : List Nat) : (asc l).length = l.length := (asc_perm l).length_eq
theorem asc_mem {l : List Nat} {x : Nat} : x ∈ asc l ↔ x ∈ l := (asc_perm l).mem_iff
/-! ### One by one -/
/-- v put ahead of the first greater one. -/
def insU (v : Nat) : List Nat → List Nat
  | [] => [v]
  | x :: l => if v < x then v :: x :: l else x :: insU v l
theorem insU_perm (v : Nat) : ∀ l : List Nat, (insU v l).Perm (v :: l)
  | [] => .refl _
  | x :: l => by
    unfold insU
    split
    · exact .refl _
    · exact ((insU_perm v l).cons x).trans (.swap v x l)
theorem insU_pw (v : Nat) : ∀ {l : List Nat}, l.Pairwise (· ≤ ·) → (insU v l).Pairwise (· ≤ ·)
  | [], _ => by simp [insU]
  | x :: l, h => by
    have h1 := List.pairwise_cons.1 h
    unfold insU
    split
    · rename_i hv
      refine List.pairwise_cons.2 ⟨fun y hy => ?_, h⟩
      rcases List.mem_cons.1 hy with rfl | hy
      · omega
      · have := h1.1 y hy; omega
    · rename_i hv
      refine List.pairwise_cons.2 ⟨fun y hy => ?_, insU_pw v h1.2⟩
      rcases List.mem_cons.1 ((insU_perm v l).mem_iff.1 hy) with rfl | hy
      · omega
      · exact h1.1 y hy
def insA (l : List Nat) : List Nat := l.foldl (fun out v => insU v out) []
theorem insA_go : ∀ (l out : List Nat), out.Pairwise (· ≤ ·) → (l.foldl (fun out v => insU v out) out).Perm (l ++ out) ∧ (l.foldl (fun out v => insU v out) out).Pairwise (· ≤ ·)
  | [], out, h => ⟨.refl _, h⟩
  | v :: l, out, h => by
    obtain ⟨h1, h2⟩ := insA_go l (insU v out) (insU_pw v h)
    refine ⟨h1.trans ?_, h2⟩
    exact ((insU_perm v out).append_left l).trans List.perm_middle
theorem insA_asc (l : List Nat) : insA l = asc l := by
  obtain ⟨h1, h2⟩ := insA_go l [] .nil
  exact asc_uniq (by simpa [insA] using h1) h2
/-! ### A table beside its inputs -/
/-- The place of the first one. -/
def plc (v : Nat) (l : List Nat) : Nat := l.findIdx (fun x => decide (x = v))
theorem plc_lt {v : Nat} {l : List Nat} : plc v l < l.length ↔ v ∈ l := by
  unfold plc
  rw [List.findIdx_lt_length]
  simp
/-- What is left of the table when each value of the inputs was taken once; none: one was not there. p: the one ahead. -/
def lft : Option Nat → List Nat → List Nat → Option (List Nat)
  | _, [], left => some left
  | p, v :: a, left => if p = some v then lft (some v) a left else if v ∈ left then lft (some v) a (left.erase v) else none
/-- The matched ones: the value where it is met first, else the next that is left. -/
def mtc : Option Nat → List Nat → List Nat → List Nat
  | _, [], _ => []
  | p, v :: a, left => if p = some v then left.headD 0 :: mtc (some v) a left.tail else v :: mtc (some v) a left
theorem plc_erase {v : Nat} {l : List Nat} : l.eraseIdx (plc v l) = l.erase v := by
  unfold plc
  induction l with
  | nil => rfl
  | cons x l ih =>
    rw [List.findIdx_cons, List.erase_cons]
    by_cases h : x = v
    · subst h; simp
    · have hb : (x == v) = false := by simp [h]
      simp only [h, decide_false, hb, cond_false, if_false, List.eraseIdx_cons_succ, ih, Bool.false_eq_true]
/-- The values that are not the one ahead. -/
def nws : Option Nat → List Nat → List Nat
  | _, [] => []
  | p, v :: a => if p = some v then nws (some v) a else v :: nws (some v) a
theorem lft_perm : ∀ {a : List Nat} {p : Option Nat} {l0 l1 : List Nat}, lft p a l0 = some l1 → l0.Perm (nws p a ++ l1)
  | [], p, l0, l1, h => by simp only [lft, Option.some.injEq] at h; rw [h]; exact .refl _
  | v :: a, p, l0, l1, h => by
    unfold lft at h
    unfold nws
    split at h
    · rename_i hp; rw [if_pos hp]; exact lft_perm h
    · rename_i hp
      rw [if_neg hp]
      split at h
      · rename_i hm
        exact (List.perm_cons_erase hm).trans ((lft_perm h).cons v)
      · cases h
theorem mtc_len : ∀ (a : List Nat) (p : Option Nat) (l : List Nat), (mtc p a l).length = a.length
  | [], _, _ => rfl
  | v :: a, p, l => by
    unfold mtc
    split
    · simp [mtc_len a]
    · simp [mtc_len a]
end Go.Sx
namespace Go.Sx
/-- The places of those that are the one ahead. -/
def rps : Option Nat → List Nat → Nat → List Nat
  | _, [], _ => []
  | p, v :: a, k => if p = some v then k :: rps (some v) a (k + 1) else rps (some v) a (k + 1)
theorem rps_len : ∀ (a : List Nat) (p : Option Nat) (k : Nat), (rps p a k).length + (nws p a).length = a.length
  | [], _, _ => rfl
  | v :: a, p, k => by
    have := rps_len a (some v) (k + 1)
    unfold rps nws
    split
    · simp only [List.length_cons]; omega
    · simp only [List.length_cons]; omega
theorem rps_lt : ∀ (a : List Nat) (p : Option Nat) (k : Nat), ∀ x ∈ rps p a k, k ≤ x ∧ x < k + a.length
  | [], _, _, x, h => by simp [rps] at h
  | v :: a, p, k, x, h => by
    unfold rps at h
    split at h
    · rcases List.mem_cons.1 h with rfl | h
      · simp
      · have := rps_lt a (some v) (k + 1) x h
        simp only [List.length_cons]; omega
    · have := rps_lt a (some v) (k + 1) x h
      simp only [List.length_cons]; omega
def putA : List Nat → List Nat → List Nat → List Nat
  | b, [], _ => b
  | b, k :: ks, l => putA (b.set k (l.headD 0)) ks l.tail
theorem putA_mtc : ∀ (a pre : List Nat) (p : Option Nat) (l : List Nat), putA (pre ++ a) (rps p a pre.length) l = pre ++ mtc p a l
  | [], pre, p, l => by simp [rps, putA, mtc]
  | v :: a, pre, p, l => by
    unfold rps mtc
    split
    · unfold putA
      have h := putA_mtc a (pre ++ [l.headD 0]) (some v) l.tail
      rw [List.length_append, List.length_singleton] at h
      rw [List.set_append_right _ _ (Nat.le_refl _), Nat.sub_self, List.set_cons_zero]
      simpa using h
    · have h := putA_mtc a (pre ++ [v]) (some v) l
      rw [List.length_append, List.length_singleton] at h
      simpa using h
theorem putA_snoc : ∀ (ks b l : List Nat) (k : Nat), putA b (ks ++ [k]) l = (putA b ks l).set k (l.getD ks.length 0)
  | [], b, l, k => by simp [putA, List.headD_eq_head?_getD, List.getD_eq_getElem?_getD, List.head?_eq_getElem?]
  | q :: ks, b, l, k => by
    show putA (b.set q (l.headD 0)) (ks ++ [k]) l.tail = _
    rw [putA_snoc ks]
    cases l <;> simp [putA]
theorem putA_len : ∀ (ks b l : List Nat), (putA b ks l).length = b.length
  | [], b, l => rfl
  | k :: ks, b, l => by rw [putA, putA_len ks, List.length_set]
/-- The one ahead of place i. -/
def ahd (a : List Nat) (i : Nat) : Option Nat := if i = 0 then none else some (a.getD (i - 1) 0)
theorem ahd_succ {a : List Nat} {i : Nat} : ahd a (i + 1) = some (a.getD i 0) := by simp [ahd]
theorem drop_at {a : List Nat} {i : Nat} (h : i < a.length) : a.drop i = a.getD i 0 :: a.drop (i + 1) := by
  rw [List.drop_eq_getElem_cons h]; congr 1; simp [List.getD, List.getElem?_eq_getElem h]
/-- The first place whose value is not less. -/
def lbd (v : Nat) (l : List Nat) : Nat := l.findIdx (fun x => decide (v ≤ x))
theorem lbd_uniq {v i : Nat} {l : List Nat} (h1 : ∀ j, j < i → l.getD j 0 < v) (h2 : i ≤ l.length) (h3 : i < l.length → v ≤ l.getD i 0) : i = lbd v l := by
  unfold lbd
  by_cases hi : i < l.length
  · refine ((List.findIdx_eq hi).2 ⟨?_, fun j hj => ?_⟩).symm
    · have := h3 hi
      simpa [List.getD, List.getElem?_eq_getElem hi] using this
    · have hj' : j < l.length := by omega
      have := h1 j hj
      simpa [List.getD, List.getElem?_eq_getElem hj'] using this
  · have : i = l.length := by omega
    subst this
    refine (List.findIdx_eq_length.2 fun x hx => ?_).symm
    obtain ⟨j, hj, rfl⟩ := List.getElem_of_mem hx
    have := h1 j hj
    simpa [List.getD, List.getElem?_eq_getElem hj] using this
theorem pw_getD {l : List Nat} (hs : l.Pairwise (· ≤ ·)) {i j : Nat} (h : i < j) (hj : j < l.length) : l.getD i 0 ≤ l.getD j 0 := by
  have := (List.pairwise_iff_getElem.1 hs) i j (by omega) hj h
  simpa [List.getD, List.getElem?_eq_getElem hj, List.getElem?_eq_getElem (show i < l.length by omega)] using this
theorem plc_get {v : Nat} {l : List Nat} (hk : plc v l < l.length) : l.getD (plc v l) 0 = v := by
  unfold plc at hk ⊢
  have := List.findIdx_getElem (w := hk)
  rw [List.getD_eq_getElem?_getD, List.getElem?_eq_getElem hk]
  exact of_decide_eq_true this
theorem lbd_plc {v : Nat} {l : List Nat} (hs : l.Pairwise (· ≤ ·)) (hm : v ∈ l) : lbd v l = plc v l := by
  have hk := plc_lt.2 hm
  have e := plc_get hk
  refine (lbd_uniq (fun j hj => ?_) (by omega) (fun _ => by omega)).symm
  have h1 := pw_getD hs hj hk
  have h2 : l.getD j 0 ≠ v := by
    have hj' : j < l.length := by omega
    have := List.not_of_lt_findIdx (p := fun x => decide (x = v)) (show j < l.findIdx (fun x => decide (x = v)) from hj)
    simpa [List.getD, List.getElem?_eq_getElem hj'] using this
  omega
theorem lbd_ok {v : Nat} {l : List Nat} (hs : l.Pairwise (· ≤ ·)) : (lbd v l < l.length ∧ l.getD (lbd v l) 0 = v) ↔ v ∈ l := by
  constructor
  · rintro ⟨h1, h2⟩
    rw [← h2]
    have : l.getD (lbd v l) 0 = l[lbd v l] := by simp [List.getD, List.getElem?_eq_getElem h1]
    rw [this]; exact List.getElem_mem h1
  · intro hm
    have hk := plc_lt.2 hm
    rw [lbd_plc hs hm]
    exact ⟨hk, plc_get hk⟩
theorem erase_pw {v : Nat} {l : List Nat} (h : l.Pairwise (· ≤ ·)) : (l.erase v).Pairwise (· ≤ ·) := h.sublist List.erase_sublist
end Go.Sx
namespace Go.Sx
open Go.Proofs Go.Num
set_option linter.unusedSimpArgs false
/-- A table filled up to place i. -/
def fil (n : Nat) (f : Nat → Nat) (i : Nat) : List Nat := tab n fun j => if j < i then f j else 0
theorem fil_len {n i : Nat} {f : Nat → Nat} : (fil n f i).length = n := tab_len
theorem fil_0 {n : Nat} {f : Nat → Nat} : fil n f 0 = List.replicate n 0 := by
  unfold fil tab
  rw [List.eq_replicate_iff]
  refine ⟨by simp, fun b hb => ?_⟩
  simp at hb
  exact hb.2.symm
theorem fil_set {n i : Nat} {f : Nat → Nat} : (fil n f i).set i (f i) = fil n f (i + 1) := by
  apply List.ext_getElem?
  intro k
  rw [List.getElem?_set, fil_len]
  unfold fil tab
  by_cases hk : k < n
  · by_cases hi : i = k
    · subst hi; simp [hk]
    · rw [if_neg hi]
      have : (k < i) ↔ (k < i + 1) := by omega
      simp [hk, this]
  · by_cases hi : i = k
    · subst hi; simp [hk]
    · rw [if_neg hi]; simp [hk]
theorem fil_n {l : List Nat} {g : Nat → Nat} : fil l.length (fun j => g (l.getD j 0)) l.length = l.map g := by
  apply List.ext_getElem?
  intro k
  unfold fil tab
  by_cases hk : k < l.length
  · simp [hk, List.getD_eq_getElem?_getD]
  · simp [hk]
def rsd (s : Int) (l : List Nat) : List Nat := l.map (· % md s)
theorem rsd_w {s : Int} {l : List Nat} : ∀ x ∈ rsd s l, x < W256 := by
  intro x hx
  obtain ⟨y, _, rfl⟩ := List.mem_map.1 hx
  exact md_w s _
theorem take_snoc {l : List Nat} {i : Nat} (h : i < l.length) : l.take (i + 1) = l.take i ++ [l.getD i 0] := by
  rw [List.take_add_one, List.getElem?_eq_getElem h, List.getD_eq_getElem?_getD, List.getElem?_eq_getElem h]; rfl
theorem X_len0 {P : Program} {T : Nat → AV} {x : Operand} {tys : Array TypeId} {ty : TypeId} (ht : tys[0]? = some ty) (hu : ∃ e, P.underlying ty = some (.slice e)) (hx : ev T x = .o (.v (.slice none 0 0))) :
    pureOp P T (.call { callee := .builtin .len, args := #[x], argTypes := tys }) (.int .i64 0) := by
  intro o f w ho hf _
  have e1 := hf x (by simp [Op.operands, Go.Call.operands]) _ hx
  obtain ⟨e, hu⟩ := hu
  simp [execOp, ho, resolve, invoke, builtin, e1, Builtin.len_, ht, run_underlying hu]
  rfl
/-- What both Permutes answer. -/
def pm (s : Int) (x y : List Nat) : List Nat × List Nat × Int :=
  if kn s = true then
    if x.length = y.length ∧ x.length ≤ 64 then
      match lft none (asc (rsd s x)) (asc (rsd s y)) with
      | some l => (asc (rsd s x), mtc none (asc (rsd s x)) l, 0)
      | none => ([], [], 200)
    else ([], [], 50)
  else ([], [], 20)
theorem lft_cons {p : Option Nat} {v : Nat} {a l : List Nat} : lft p (v :: a) l = if p = some v then lft (some v) a l else if v ∈ l then lft (some v) a (l.erase v) else none := rfl
end Go.Sx
