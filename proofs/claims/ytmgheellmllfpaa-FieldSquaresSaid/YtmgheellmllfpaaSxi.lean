/-
  The machine: a region that draws its order comes to the same state in whatever order, where the static look (orderOK) lets it by. No conditions.
-/
import Derived.Test.YtmgheellmllfpaaSxh
namespace Go.Sx
section
variable {P : Program}

/-! ### what is ahead of what -/
theorem fold_test {acc : List Nat} {i : Nat} : ∀ (L : List Edge) (s0 : Nat), (L.foldl (fun s e => if Region.binds .any e then s ||| 2 ^ e.on ||| acc.getD e.on 0 else s) s0).testBit i = true →
    s0.testBit i = true ∨ ∃ e ∈ L, Region.binds .any e = true ∧ (e.on = i ∨ (acc.getD e.on 0).testBit i = true)
  | [], s0, h => .inl h
  | e :: L, s0, h => by
    simp only [List.foldl_cons] at h
    rcases fold_test L _ h with h1 | ⟨e', h1, h2⟩
    · by_cases hb : Region.binds .any e = true
      · simp only [hb, if_true, Nat.testBit_or, Bool.or_eq_true] at h1
        rcases h1 with (h1 | h1) | h1
        · exact .inl h1
        · refine .inr ⟨e, by simp, hb, .inl ?_⟩
          simpa [Nat.testBit_two_pow] using h1
        · exact .inr ⟨e, by simp, hb, .inr h1⟩
      · simp only [hb] at h1; exact .inl h1
    · exact .inr ⟨e', by simp [h1], h2⟩

theorem masks_take : ∀ (l : List Oper) (acc : List Nat), (masks l acc).take acc.length = acc ∧ (masks l acc).length = acc.length + l.length
  | [], acc => by simp [masks]
  | o :: l, acc => by
    have h := masks_take l (acc ++ [maskOf acc o])
    simp only [masks]
    refine ⟨?_, by rw [h.2]; simp; omega⟩
    have h1 := congrArg (List.take acc.length) h.1
    rw [List.take_take] at h1
    simpa using h1
theorem masks_at : ∀ (l : List Oper) (acc : List Nat) (j : Nat) (o : Oper), l[j]? = some o → (masks l acc)[acc.length + j]? = some (maskOf ((masks l acc).take (acc.length + j)) o)
  | [], _, _, _, h => by simp at h
  | o :: l, acc, 0, o', h => by
    simp at h; subst h
    simp only [masks, Nat.add_zero]
    have h1 := (masks_take l (acc ++ [maskOf acc o])).1
    have h2 : (masks l (acc ++ [maskOf acc o])).take acc.length = acc := by
      have := congrArg (List.take acc.length) h1
      rw [List.take_take] at this
      simpa using this
    rw [h2]
    have := congrArg (fun x => x[acc.length]?) h1
    simpa [List.getElem?_take] using this
  | o :: l, acc, j + 1, o', h => by
    simp only [masks]
    have := masks_at l (acc ++ [maskOf acc o]) j o' (by simpa using h)
    simp only [List.length_append, List.length_singleton] at this
    have e : acc.length + 1 + j = acc.length + (j + 1) := by omega
    rw [e] at this; exact this

def befS (all : List Oper) (i j : Nat) : Prop := ((masks all []).getD j 0).testBit i = true

def Closed (all : List Oper) (S : Nat → Bool) : Prop := ∀ j o, all[j]? = some o → S j = true → ∀ e ∈ o.after.toList, Region.binds .any e = true → S e.on = true

theorem bef_closed {all : List Oper} {S : Nat → Bool} (hS : Closed all S) : ∀ (j : Nat) (o : Oper), all[j]? = some o → ∀ i, befS all i j → (∀ e ∈ o.after.toList, Region.binds .any e = true → S e.on = true) → S i = true := by
  intro j
  induction j using Nat.strongRecOn with
  | _ j ih =>
    intro o ho i hb hafter
    unfold befS at hb
    have hm := masks_at all [] j o ho
    simp only [List.length_nil, Nat.zero_add] at hm
    rw [List.getD_eq_getElem?_getD, hm] at hb
    simp only [Option.getD_some, maskOf] at hb
    rcases fold_test _ _ hb with h0 | ⟨e, he, hbind, h1⟩
    · simp at h0
    · have hon := hafter e he hbind
      rcases h1 with h1 | h1
      · rw [← h1]; exact hon
      · have hlt : e.on < j := by
          rcases Nat.lt_or_ge e.on j with h' | h'
          · exact h'
          · rw [List.getD_eq_getElem?_getD, List.getElem?_take, if_neg (by omega)] at h1
            simp at h1
        have hlen : e.on < all.length := by have := (List.getElem?_eq_some_iff.1 ho).1; omega
        refine ih e.on hlt all[e.on] (List.getElem?_eq_getElem hlen) i ?_ (fun e' he' hb' => hS e.on _ (List.getElem?_eq_getElem hlen) hon e' he' hb')
        unfold befS
        rw [List.getD_eq_getElem?_getD, List.getElem?_take, if_pos hlt] at h1
        rw [List.getD_eq_getElem?_getD]
        exact h1

/-! ### the states that a set of operations leaves -/
def setT (N : Nat) (T : Nat → AV) (d : Option Nat) (r : AV) : Nat → AV := fun x => if d = some x ∧ x < N then r else T x
def TS (N : Nat) (all : List Oper) (us : List Upd) (S : Nat → Bool) (T : Nat → AV) : Nat → Nat → AV
  | 0 => T
  | j + 1 => if S j then setT N (TS N all us S T j) (gslot all j) (us.getD j undU).r else TS N all us S T j
def MS (us : List Upd) (S : Nat → Bool) (M : MemF) : Nat → MemF
  | 0 => M
  | j + 1 => if S j then applyM (MS us S M j) (us.getD j undU) else MS us S M j
def ins (S : Nat → Bool) (i : Nat) : Nat → Bool := fun j => if j = i then true else S j

variable {N : Nat} {all : List Oper} {us : List Upd} {S : Nat → Bool} {T : Nat → AV} {M : MemF}

theorem TS_ins {i : Nat} (hi : S i = false) (hd : ∀ j, j ≠ i → gslot all j = none ∨ gslot all j ≠ gslot all i) : ∀ p, (p ≤ i → TS N all us (ins S i) T p = TS N all us S T p) ∧
    (i < p → TS N all us (ins S i) T p = setT N (TS N all us S T p) (gslot all i) (us.getD i undU).r)
  | 0 => ⟨fun _ => rfl, fun h => by omega⟩
  | p + 1 => by
    have ih := TS_ins hi hd p
    constructor
    · intro hp
      have hne : p ≠ i := by omega
      simp only [TS, ins, hne, if_false, ih.1 (by omega)]
    · intro hp
      by_cases hpi : p = i
      · subst hpi
        simp only [TS, ins, if_true, hi, ih.1 (Nat.le_refl _)]
        simp
      · have hne : p ≠ i := hpi
        simp only [TS, ins, hne, if_false, ih.2 (by omega)]
        cases hS : S p with
        | false => simp
        | true =>
          simp only [if_true]
          funext x
          simp only [setT]
          rcases hd p hne with h0 | h0
          · simp [h0]
          · by_cases h1 : gslot all p = some x
            · have h2 : gslot all i ≠ some x := by rw [← h1]; exact Ne.symm h0
              simp [h1, h2]
            · simp [h1]

def touch (u : Upd) (k : Nat) : Prop := (u.cr.get k).isSome = true ∨ (u.wr.get k).isSome = true
theorem applyM_untouched {u : Upd} {k : Nat} (h : ¬ touch u k) (M : MemF) : applyM M u k = M k := by
  unfold touch at h
  unfold applyM
  cases h1 : u.cr.get k with
  | some e => simp [h1] at h
  | none =>
    cases h2 : u.wr.get k with
    | some e => simp [h2] at h
    | none => cases M k <;> rfl
theorem applyM_congr {u : Upd} {k : Nat} {M M' : MemF} (h : M k = M' k) : applyM M u k = applyM M' u k := by
  unfold applyM; rw [h]

theorem MS_ins {i : Nat} (hi : S i = false) (hd : ∀ j, i < j → S j = true → ∀ k, ¬ (touch (us.getD i undU) k ∧ touch (us.getD j undU) k)) : ∀ p, (p ≤ i → MS us (ins S i) M p = MS us S M p) ∧
    (i < p → MS us (ins S i) M p = applyM (MS us S M p) (us.getD i undU))
  | 0 => ⟨fun _ => rfl, fun h => by omega⟩
  | p + 1 => by
    have ih := MS_ins hi hd p
    constructor
    · intro hp
      have hne : p ≠ i := by omega
      simp only [MS, ins, hne, if_false, ih.1 (by omega)]
    · intro hp
      by_cases hpi : p = i
      · subst hpi
        simp only [MS, ins, if_true, hi, ih.1 (Nat.le_refl _)]
        simp
      · have hne : p ≠ i := hpi
        simp only [MS, ins, hne, if_false, ih.2 (by omega)]
        cases hS : S p with
        | false => simp
        | true =>
          simp only [if_true]
          funext k
          by_cases h1 : touch (us.getD i undU) k
          · have h2 : ¬ touch (us.getD p undU) k := fun h2 => hd p (by omega) hS k ⟨h1, h2⟩
            rw [applyM_untouched h2]
            exact applyM_congr (applyM_untouched h2 _).symm
          · rw [applyM_untouched h1]
            exact applyM_congr (applyM_untouched h1 _)

theorem TS_other {x : Nat} : ∀ p, (∀ j, j < p → S j = true → gslot all j ≠ some x) → TS N all us S T p x = T x
  | 0, _ => rfl
  | p + 1, h => by
    have ih := TS_other p (fun j hj => h j (by omega))
    simp only [TS]
    split
    · rename_i hS
      simp only [setT]
      rw [if_neg (fun hh => h p (by omega) hS hh.1), ih]
    · exact ih
theorem TS_writer {x j : Nat} (hx : gslot all j = some x) (hS : S j = true) (hu : ∀ j', j' ≠ j → gslot all j' ≠ some x) : ∀ p, j < p → TS N all us S T p x = if x < N then (us.getD j undU).r else T x
  | 0, h => by omega
  | p + 1, h => by
    simp only [TS]
    by_cases hp : p = j
    · subst hp
      simp only [hS, if_true, setT, hx, true_and]
      split
      · rfl
      · exact TS_other p (fun j' hj' _ => hu j' (by omega))
    · have ih := TS_writer hx hS hu p (by omega)
      split
      · simp only [setT]
        rw [if_neg (fun hh => hu p hp hh.1), ih]
      · exact ih

theorem MS_dom {k : Nat} : ∀ p, (MS us S M p k).isSome = true → (M k).isSome = true ∨ ∃ j, j < p ∧ S j = true ∧ ((us.getD j undU).cr.get k).isSome = true
  | 0, h => .inl h
  | p + 1, h => by
    simp only [MS] at h
    split at h
    · rename_i hS
      unfold applyM at h
      split at h
      · rename_i e he; exact .inr ⟨p, by omega, hS, by rw [he]; rfl⟩
      · split at h
        · simp at h
        · rename_i e0 he0
          rcases MS_dom p (by rw [he0]; rfl) with h1 | ⟨j, h1, h2⟩
          · exact .inl h1
          · exact .inr ⟨j, by omega, h2⟩
    · rcases MS_dom p h with h1 | ⟨j, h1, h2⟩
      · exact .inl h1
      · exact .inr ⟨j, by omega, h2⟩

theorem TS_congr {S' : Nat → Bool} : ∀ p, (∀ j, j < p → S j = S' j) → TS N all us S T p = TS N all us S' T p
  | 0, _ => rfl
  | p + 1, h => by simp only [TS]; rw [TS_congr p (fun j hj => h j (by omega)), h p (by omega)]
theorem MS_congr {S' : Nat → Bool} : ∀ p, (∀ j, j < p → S j = S' j) → MS us S M p = MS us S' M p
  | 0, _ => rfl
  | p + 1, h => by simp only [MS]; rw [MS_congr p (fun j hj => h j (by omega)), h p (by omega)]

/-- Two sets that agree on who writes k: what both have at k is one. -/
theorem MS_agree {S' : Nat → Bool} {k : Nat} (hw : ∀ j, ((us.getD j undU).wr.get k).isSome = true → S j = S' j) (hc : ∀ j, ((us.getD j undU).cr.get k).isSome = true → (M k) = none ∧ ∀ j', ((us.getD j' undU).cr.get k).isSome = true → j' = j) :
    ∀ p e e', MS us S M p k = some e → MS us S' M p k = some e' → e = e'
  | 0, e, e', h, h' => by simp only [MS] at h h'; rw [h] at h'; simpa using h'
  | p + 1, e, e', h, h' => by
    have ih := MS_agree hw hc p
    have hnone : ((us.getD p undU).cr.get k).isSome = true → ∀ S'' : Nat → Bool, MS us S'' M p k = none := by
      intro hcr S''
      cases hm : MS us S'' M p k with
      | none => rfl
      | some e2 =>
        rcases MS_dom p (by rw [hm]; rfl) with h1 | ⟨j, h1, _, h3⟩
        · rw [(hc p hcr).1] at h1; cases h1
        · have := (hc p hcr).2 j h3; omega
    have step : ∀ S'' : Nat → Bool, MS us S'' M (p + 1) k = if S'' p then applyM (MS us S'' M p) (us.getD p undU) k else MS us S'' M p k := by
      intro S''; simp only [MS]; split <;> rfl
    rw [step] at h h'
    cases hcr : (us.getD p undU).cr.get k with
    | some ec =>
      have hn1 := hnone (by rw [hcr]; rfl) S
      have hn2 := hnone (by rw [hcr]; rfl) S'
      simp only [hn1, applyM, hcr] at h
      simp only [hn2, applyM, hcr] at h'
      split at h
      · split at h'
        · simp at h h'; rw [← h, ← h']
        · cases h'
      · cases h
    | none =>
      cases hwr : (us.getD p undU).wr.get k with
      | none =>
        have hu : ¬ touch (us.getD p undU) k := by unfold touch; rw [hcr, hwr]; simp
        rw [applyM_untouched hu] at h h'
        simp only [ite_self] at h h'
        exact ih e e' h h'
      | some ew =>
        have hSS := hw p (by rw [hwr]; rfl)
        rw [hSS] at h
        by_cases hS : S' p = true
        · simp only [hS, if_true, applyM, hcr, hwr] at h h'
          split at h
          · cases h
          · split at h'
            · cases h'
            · simp at h h'; rw [← h, ← h']
        · simp only [hS] at h h'
          exact ih e e' h h'

end
end Go.Sx
