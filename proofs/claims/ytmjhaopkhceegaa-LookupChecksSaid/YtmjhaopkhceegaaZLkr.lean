/-
  Tables filled one by one, and residues. No conditions.
-/
import Derived.Test.YtmjhaopkhceegaaZLkb
import Derived.Test.YtmjhaopkhceegaaZMachC
import Derived.Test.YtmjhaopkhceegaaZPermA
namespace Go.Sx
open Go.Proofs Go.Num
set_option linter.unusedSimpArgs false
/-- A table filled up to place i. -/
def fil (n : Nat) (f : Nat → Nat) (i : Nat) : List Nat := tab n fun j => if j < i then f j else 0
theorem fil_len {n i : Nat} {f : Nat → Nat} : (fil n f i).length = n := tab_len
theorem fil_0 {n : Nat} {f : Nat → Nat} : fil n f 0 = List.replicate n 0 := by
  unfold fil tab
  rw [List.eq_replicate_iff]
  refine ⟨by simp, fun b hb => ?_⟩
  simp at hb
  exact hb.2.symm
theorem fil_set {n i : Nat} {f : Nat → Nat} : (fil n f i).set i (f i) = fil n f (i + 1) := by
  apply List.ext_getElem?
  intro k
  rw [List.getElem?_set, fil_len]
  unfold fil tab
  by_cases hk : k < n
  · by_cases hi : i = k
    · subst hi; simp [hk]
    · rw [if_neg hi]
      have : (k < i) ↔ (k < i + 1) := by omega
      simp [hk, this]
  · by_cases hi : i = k
    · subst hi; simp [hk]
    · rw [if_neg hi]; simp [hk]
theorem fil_n {l : List Nat} {g : Nat → Nat} : fil l.length (fun j => g (l.getD j 0)) l.length = l.map g := by
  apply List.ext_getElem?
  intro k
  unfold fil tab
  by_cases hk : k < l.length
  · simp [hk, List.getD_eq_getElem?_getD]
  · simp [hk]
def rsd (s : Int) (l : List Nat) : List Nat := l.map (· % md s)
theorem rsd_w {s : Int} {l : List Nat} : ∀ x ∈ rsd s l, x < W256 := by
  intro x hx
  obtain ⟨y, _, rfl⟩ := List.mem_map.1 hx
  exact md_w s _
theorem take_snoc {l : List Nat} {i : Nat} (h : i < l.length) : l.take (i + 1) = l.take i ++ [l.getD i 0] := by
  rw [List.take_add_one, List.getElem?_eq_getElem h, List.getD_eq_getElem?_getD, List.getElem?_eq_getElem h]; rfl
theorem X_len0 {P : Program} {T : Nat → AV} {x : Operand} {tys : Array TypeId} {ty : TypeId} (ht : tys[0]? = some ty) (hu : ∃ e, P.underlying ty = some (.slice e)) (hx : ev T x = .o (.v (.slice none 0 0))) :
    pureOp P T (.call { callee := .builtin .len, args := #[x], argTypes := tys }) (.int .i64 0) := by
  intro o f w ho hf _
  have e1 := hf x (by simp [Op.operands, Go.Call.operands]) _ hx
  obtain ⟨e, hu⟩ := hu
  simp [execOp, ho, resolve, invoke, builtin, e1, Builtin.len_, ht, run_underlying hu]
  rfl
/-- What both Permutes answer. -/
def pm (s : Int) (x y : List Nat) : List Nat × List Nat × Int :=
  if kn s = true then
    if x.length = y.length ∧ x.length ≤ 64 then
      match lft none (asc (rsd s x)) (asc (rsd s y)) with
      | some l => (asc (rsd s x), mtc none (asc (rsd s x)) l, 0)
      | none => ([], [], 200)
    else ([], [], 50)
  else ([], [], 20)
theorem lft_cons {p : Option Nat} {v : Nat} {a l : List Nat} : lft p (v :: a) l = if p = some v then lft (some v) a l else if v ∈ l then lft (some v) a (l.erase v) else none := rfl
end Go.Sx
