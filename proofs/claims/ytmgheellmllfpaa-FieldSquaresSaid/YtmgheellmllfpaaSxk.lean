/-
  The machine: a region in any order, and code as a whole (vcs_sound). No conditions.
-/
import Derived.Test.YtmgheellmllfpaaSxj
namespace Go.Sx
section
variable {P : Program} {Q : St → Prop}

def StepF (P : Program) (all : List Oper) (st : St) (o : Oper) (u : Upd) : Prop :=
  (runs all st o ∧ OpOK P st.T st.m.get st.n o.op u ∧ (cls o.op = 1 → u.wr = [])) ∨ (skips all st o ∧ u = undU)
def TrL (P : Program) (all : List Oper) : List Oper → List Upd → St → St → Prop
  | [], [], st, st' => st' = st
  | o :: rest, u :: us, st, st' => StepF P all st o u ∧ TrL P all rest us (st.put o.dst u) st'
  | _, _, _, _ => False

theorem vcs_trace {all : List Oper} {k : List Frm} : ∀ (m : Nat) (rest : List Oper) (st : St), vcs P Q m (.ops true all rest :: k) st → ∃ us st', TrL P all rest us st st' ∧ ∃ m', m' < m ∧ vcs P Q m' k st'
  | 0, _, _, h => h.elim
  | m + 1, [], st, h => ⟨[], st, rfl, m, by omega, h⟩
  | m + 1, o :: rest, st, h => by
    rcases vcs_op h with ⟨hr, u, hok, hv, hw⟩ | ⟨hr, hv⟩
    · obtain ⟨us, st', h1, m', h2, h3⟩ := vcs_trace m rest _ hv
      exact ⟨u :: us, st', ⟨.inl ⟨hr, hok, hw rfl⟩, h1⟩, m', by omega, h3⟩
    · obtain ⟨us, st', h1, m', h2, h3⟩ := vcs_trace m rest _ hv
      exact ⟨undU :: us, st', ⟨.inr ⟨hr, rfl⟩, h1⟩, m', by omega, h3⟩

abbrev tt : Nat → Bool := fun _ => true

theorem put_T (st : St) (d : Option Nat) (u : Upd) : (st.put d u).T = setT st.t.length st.T d u.r := by
  funext i
  simp only [St.T, St.put, setd_getD, setT]

theorem TrL_at {N : Nat} {all : List Oper} {us0 : List Upd} {T0 : Nat → AV} {M0 : MemF} {n0 : Nat} : ∀ (rest : List Oper) (us : List Upd) (i : Nat) (st st' : St), TrL P all rest us st st' → all.drop i = rest → us0.drop i = us →
    st.T = TS N all us0 tt T0 i → st.m.get = MS us0 tt M0 i → st.n = n0 + 4 * i → st.t.length = N →
    (∀ j o, i ≤ j → all[j]? = some o → ∃ stj : St, stj.T = TS N all us0 tt T0 j ∧ stj.m.get = MS us0 tt M0 j ∧ stj.n = n0 + 4 * j ∧ StepF P all stj o (us0.getD j undU)) ∧
      st'.T = TS N all us0 tt T0 (i + rest.length) ∧ st'.m.get = MS us0 tt M0 (i + rest.length) ∧ st'.n = n0 + 4 * (i + rest.length) ∧ st'.t.length = N
  | [], [], i, st, st', h, h1, h2, h3, h4, h5, h6 => by
    have h : st' = st := h
    subst h
    refine ⟨fun j o hj ho => ?_, h3, h4, h5, h6⟩
    have := (List.getElem?_eq_some_iff.1 ho).1
    have hl := congrArg List.length h1
    simp at hl
    omega
  | o :: rest, u :: us, i, st, st', h, h1, h2, h3, h4, h5, h6 => by
    have ho : all[i]? = some o := by have := congrArg (fun l => l[0]?) h1; simpa using this
    have hu : us0[i]? = some u := by have := congrArg (fun l => l[0]?) h2; simpa using this
    have hug : us0.getD i undU = u := by simp [List.getD_eq_getElem?_getD, hu]
    have hg : gslot all i = o.dst := by simp [gslot, ho]
    have d1 : all.drop (i + 1) = rest := by rw [← List.drop_drop, h1]; rfl
    have d2 : us0.drop (i + 1) = us := by rw [← List.drop_drop, h2]; rfl
    obtain ⟨ih1, ih2, ih3, ih4, ih5⟩ := TrL_at (N := N) (T0 := T0) (M0 := M0) (n0 := n0) rest us (i + 1) (st.put o.dst u) st' h.2 d1 d2
      (by rw [put_T, h3, h6]; simp only [TS, tt, if_true, hg, hug])
      (by rw [get_put, h4]; simp only [MS, tt, if_true, hug])
      (by simp only [St.put]; omega) (by simp only [St.put, setd_length, h6])
    have e : i + 1 + rest.length = i + (o :: rest).length := by simp; omega
    rw [e] at ih2 ih3 ih4
    refine ⟨fun j o' hj ho' => ?_, ih2, ih3, ih4, ih5⟩
    by_cases hji : j = i
    · subst hji
      rw [ho] at ho'
      simp only [Option.some.injEq] at ho'
      subst ho'
      exact ⟨st, h3, h4, h5, by rw [hug]; exact h.1⟩
    · exact ih1 j o' (by omega) ho'
  | [], _ :: _, _, _, _, h, _, _, _, _, _, _ => h.elim
  | _ :: _, [], _, _, _, h, _, _, _, _, _, _ => h.elim

/-! ### what the static look says -/
structure Look (all : List Oper) : Prop where
  one : ∀ j o, all[j]? = some o → oneOK j o ((masks all []).getD j 0) = true
  pair : ∀ i j oi oj, i < j → all[i]? = some oi → all[j]? = some oj → pairOK all (((masks all []).getD j 0).testBit i) oi oj = true
theorem look_of {all : List Oper} (h : orderOK all = true) : Look all := by
  unfold orderOK at h
  rw [List.all_eq_true] at h
  constructor
  · intro j o ho
    have hlt := (List.getElem?_eq_some_iff.1 ho).1
    have := h j (by simpa using hlt)
    rw [ho] at this
    simp only [Bool.and_eq_true] at this
    exact this.1
  · intro i j oi oj hij hi hj
    have hlt := (List.getElem?_eq_some_iff.1 hj).1
    have := h j (by simpa using hlt)
    rw [hj] at this
    simp only [Bool.and_eq_true, List.all_eq_true] at this
    have h2 := this.2 i (by simpa using hij)
    rw [hi] at h2
    exact h2

theorem Look.slots {all : List Oper} (h : Look all) {i j : Nat} {oi oj : Oper} (hi : all[i]? = some oi) (hj : all[j]? = some oj) (hne : i ≠ j) : oi.dst = none ∨ oi.dst ≠ oj.dst := by
  rcases Nat.lt_or_gt_of_ne hne with hlt | hlt
  · have hp := h.pair i j oi oj hlt hi hj
    unfold pairOK at hp
    cases hd : oi.dst with
    | none => exact .inl rfl
    | some d =>
      rw [hd] at hp
      simp only [Bool.and_eq_true, bne_iff_ne, ne_eq] at hp
      exact .inr hp.1.2.1
  · have hp := h.pair j i oj oi hlt hj hi
    unfold pairOK at hp
    cases hd : oj.dst with
    | none => cases hd2 : oi.dst with
      | none => exact .inl rfl
      | some d => exact .inr (by simp)
    | some d =>
      rw [hd] at hp
      simp only [Bool.and_eq_true, bne_iff_ne, ne_eq] at hp
      exact .inr (fun e => hp.1.2.1 e.symm)

/-- A writer of a slot that i looks at: ahead of i in the text, then ahead of it in any order; else behind. -/
theorem Look.reads {all : List Oper} (h : Look all) {i j : Nat} {oi oj : Oper} (hi : all[i]? = some oi) (hj : all[j]? = some oj) {x : Nat} (hx : oj.dst = some x) (hl : x ∈ oi.looksAt all.toArray) :
    (j < i → befS all j i) ∧ (i < j → befS all i j) := by
  constructor
  · intro hlt
    have hp := h.pair j i oj oi hlt hj hi
    unfold pairOK at hp
    rw [hx] at hp
    simp only [Bool.and_eq_true, Bool.or_eq_true, Bool.not_eq_true'] at hp
    rcases hp.1.2.2 with h' | h'
    · exact h'
    · have : (oi.looksAt all.toArray).contains x = true := by simpa using hl
      rw [this] at h'; cases h'
  · intro hlt
    have hp := h.pair i j oi oj hlt hi hj
    unfold pairOK at hp
    rw [hx] at hp
    simp only [Bool.and_eq_true, Bool.or_eq_true, Bool.not_eq_true'] at hp
    rcases hp.2 with h' | h'
    · exact h'
    · have : (oi.looksAt all.toArray).contains x = true := by simpa using hl
      rw [this] at h'; cases h'

theorem Look.mem {all : List Oper} (h : Look all) {i j : Nat} {oi oj : Oper} (hi : all[i]? = some oi) (hj : all[j]? = some oj) (hlt : i < j) (hc : (2 ≤ cls oi.op ∧ 1 ≤ cls oj.op) ∨ (1 ≤ cls oi.op ∧ 2 ≤ cls oj.op)) : befS all i j := by
  have hp := h.pair i j oi oj hlt hi hj
  unfold pairOK at hp
  simp only [Bool.and_eq_true, Bool.or_eq_true, Bool.not_eq_true'] at hp
  rcases hp.1.1 with h' | h'
  · exact h'
  · exfalso
    rcases hc with ⟨h1, h2⟩ | ⟨h1, h2⟩ <;> simp [h1, h2] at h'

/-! ### the facts of a trace -/
structure Tr (P : Program) (N : Nat) (all : List Oper) (us : List Upd) (T0 : Nat → AV) (M0 : MemF) (n0 : Nat) : Prop where
  look : Look all
  step : ∀ j o, all[j]? = some o → ∃ stj : St, stj.T = TS N all us tt T0 j ∧ stj.m.get = MS us tt M0 j ∧ stj.n = n0 + 4 * j ∧ StepF P all stj o (us.getD j undU)
  dom : ∀ k, (M0 k).isSome = true → k < n0
  len : us.length = all.length

section
variable {N : Nat} {all : List Oper} {us : List Upd} {T0 : Nat → AV} {M0 : MemF} {n0 : Nat}

theorem Tr.ids (h : Tr P N all us T0 M0 n0) {j : Nat} {k : Nat} (hk : ((us.getD j undU).cr.get k).isSome = true) : n0 + 4 * j ≤ k ∧ k < n0 + 4 * j + 4 := by
  cases ho : all[j]? with
  | none =>
    have hlt : us.length ≤ j := by rw [h.len]; simpa using ho
    rw [List.getD_eq_getElem?_getD, List.getElem?_eq_none hlt] at hk
    cases hk
  | some o =>
    obtain ⟨stj, _, _, hn, hs⟩ := h.step j o ho
    rcases hs with ⟨_, hok, _⟩ | ⟨_, he⟩
    · obtain ⟨e, he⟩ := Option.isSome_iff_exists.1 hk
      have := opOK_ids hok k e he
      omega
    · rw [he] at hk; cases hk

theorem Tr.cls_of_touch (h : Tr P N all us T0 M0 n0) {j k : Nat} (hk : touch (us.getD j undU) k) : ∃ o, all[j]? = some o ∧ 1 ≤ cls o.op ∧ (((us.getD j undU).wr.get k).isSome = true → 2 ≤ cls o.op) := by
  cases ho : all[j]? with
  | none =>
    have hlt : us.length ≤ j := by rw [h.len]; simpa using ho
    rw [List.getD_eq_getElem?_getD, List.getElem?_eq_none hlt] at hk
    rcases hk with hk | hk <;> cases hk
  | some o =>
    obtain ⟨stj, _, _, hn, hs⟩ := h.step j o ho
    rcases hs with ⟨_, hok, hw⟩ | ⟨_, he⟩
    · refine ⟨o, rfl, ?_, fun hwk => ?_⟩
      · rcases Nat.eq_zero_or_pos (cls o.op) with h0 | h0
        · obtain ⟨e1, e2⟩ := opOK_cls hok h0
          unfold touch at hk
          rw [e1, e2] at hk
          rcases hk with hk | hk <;> cases hk
        · exact h0
      · rcases Nat.lt_or_ge (cls o.op) 2 with h2 | h2
        · rcases Nat.eq_zero_or_pos (cls o.op) with h0 | h0
          · rw [(opOK_cls hok h0).2] at hwk; cases hwk
          · rw [hw (by omega)] at hwk; cases hwk
        · exact h2
    · rw [he] at hk
      rcases hk with hk | hk <;> cases hk

theorem Tr.slots (h : Tr P N all us T0 M0 n0) {i j : Nat} (hne : j ≠ i) : gslot all j = none ∨ gslot all j ≠ gslot all i := by
  cases hj : all[j]? with
  | none => exact .inl (by simp [gslot, hj])
  | some oj =>
    cases hi : all[i]? with
    | none =>
      cases hd : oj.dst with
      | none => exact .inl (by simp [gslot, hj, hd])
      | some d => exact .inr (by simp [gslot, hj, hi, hd])
    | some oi =>
      have := h.look.slots hj hi hne
      simpa [gslot, hj, hi] using this

theorem S_text {i : Nat} : ∀ j, TS N all us (fun j => decide (j < i)) T0 (i + j) = TS N all us tt T0 i
  | 0 => TS_congr i (fun j hj => by simp [hj])
  | j + 1 => by
    have : ¬ i + j < i := by omega
    show TS N all us _ T0 (i + j + 1) = _
    simp only [TS, this, decide_false]
    exact S_text j
theorem SM_text {i : Nat} : ∀ j, MS us (fun j => decide (j < i)) M0 (i + j) = MS us tt M0 i
  | 0 => MS_congr i (fun j hj => by simp [hj])
  | j + 1 => by
    have : ¬ i + j < i := by omega
    show MS us _ M0 (i + j + 1) = _
    simp only [MS, this, decide_false]
    exact SM_text j

theorem Tr.T_agree (h : Tr P N all us T0 M0 n0) {S : Nat → Bool} (hS : Closed all S) {i : Nat} {oi : Oper} (hi : all[i]? = some oi) (hSi : S i = false) (hready : ∀ e ∈ oi.after.toList, Region.binds .any e = true → S e.on = true)
    {x : Nat} (hx : x ∈ oi.looksAt all.toArray) : TS N all us S T0 all.length x = TS N all us tt T0 i x := by
  have hilt := (List.getElem?_eq_some_iff.1 hi).1
  by_cases hw : ∃ j, j < all.length ∧ gslot all j = some x
  · obtain ⟨j, hjlt, hj⟩ := hw
    have hjo : all[j]? = some all[j] := List.getElem?_eq_getElem hjlt
    have hd : (all[j]).dst = some x := by simpa [gslot, hjo] using hj
    obtain ⟨r1, r2⟩ := h.look.reads hi hjo hd hx
    have hu : ∀ j', j' ≠ j → gslot all j' ≠ some x := by
      intro j' hne e
      rcases h.slots hne with h0 | h0
      · rw [h0] at e; cases e
      · exact h0 (by rw [e, hj])
    rcases Nat.lt_trichotomy j i with hlt | heq | hgt
    · have hSj := bef_closed hS i oi hi j (r1 hlt) hready
      rw [TS_writer hj hSj hu all.length hjlt, TS_writer (S := tt) hj rfl hu i hlt]
    · subst heq
      rw [TS_other all.length, TS_other (S := tt) j]
      · intro j' hj' _ e; exact hu j' (by omega) e
      · intro j' hj' hSj' e
        by_cases hjj : j' = j
        · subst hjj; rw [hSi] at hSj'; cases hSj'
        · exact hu j' hjj e
    · have hSj : S j = false := by
        cases hs : S j with
        | false => rfl
        | true =>
          have := bef_closed hS j _ hjo i (r2 hgt) (hS j _ hjo hs)
          rw [hSi] at this; cases this
      rw [TS_other all.length, TS_other (S := tt) i]
      · intro j' hj' _ e; exact hu j' (by omega) e
      · intro j' hj' hSj' e
        by_cases hjj : j' = j
        · subst hjj; rw [hSj] at hSj'; cases hSj'
        · exact hu j' hjj e
  · have hno : ∀ j, gslot all j ≠ some x := by
      intro j e
      by_cases hjlt : j < all.length
      · exact hw ⟨j, hjlt, e⟩
      · have : all[j]? = none := by simpa using hjlt
        simp [gslot, this] at e
    rw [TS_other all.length (fun j _ _ => hno j), TS_other (S := tt) i (fun j _ _ => hno j)]

theorem Tr.M_agree (h : Tr P N all us T0 M0 n0) {S : Nat → Bool} (hS : Closed all S) {i : Nat} {oi : Oper} (hi : all[i]? = some oi) (hSi : S i = false) (hready : ∀ e ∈ oi.after.toList, Region.binds .any e = true → S e.on = true)
    (hc : 1 ≤ cls oi.op) : ∀ k e, MS us tt M0 i k = some e → (MS us S M0 all.length k).isSome = true → MS us S M0 all.length k = some e := by
  intro k e he hsome
  obtain ⟨e', he'⟩ := Option.isSome_iff_exists.1 hsome
  have hilt := (List.getElem?_eq_some_iff.1 hi).1
  have htext : MS us (fun j => decide (j < i)) M0 all.length k = some e := by
    have := SM_text (us := us) (M0 := M0) (i := i) (all.length - i)
    have e1 : i + (all.length - i) = all.length := by omega
    rw [e1] at this
    rw [this]; exact he
  have := MS_agree (us := us) (M := M0) (S := S) (S' := fun j => decide (j < i)) (k := k) ?_ ?_ all.length e' e he' htext
  · rw [he', this]
  · intro j hw
    obtain ⟨oj, hj, _, h2⟩ := h.cls_of_touch (j := j) (k := k) (.inr hw)
    have h2 := h2 hw
    rcases Nat.lt_trichotomy j i with hlt | heq | hgt
    · simp only [hlt, decide_true]
      exact bef_closed hS i oi hi j (h.look.mem hj hi hlt (.inl ⟨h2, hc⟩)) hready
    · subst heq; simp [hSi]
    · have hb := h.look.mem hi hj hgt (.inr ⟨hc, h2⟩)
      have : ¬ j < i := by omega
      simp only [this, decide_false]
      cases hs : S j with
      | false => rfl
      | true =>
        have := bef_closed hS j _ hj i hb (hS j _ hj hs)
        rw [hSi] at this; cases this
  · intro j hcr
    have hid := h.ids hcr
    refine ⟨?_, fun j' hcr' => ?_⟩
    · cases hM : M0 k with
      | none => rfl
      | some e0 => have := h.dom k (by rw [hM]; rfl); omega
    · have := h.ids hcr'; omega

theorem Tr.ins (h : Tr P N all us T0 M0 n0) {S : Nat → Bool} (hS : Closed all S) {i : Nat} {oi : Oper} (hi : all[i]? = some oi) (hSi : S i = false) :
    TS N all us (ins S i) T0 all.length = setT N (TS N all us S T0 all.length) oi.dst (us.getD i undU).r ∧
    MS us (ins S i) M0 all.length = applyM (MS us S M0 all.length) (us.getD i undU) := by
  have hilt := (List.getElem?_eq_some_iff.1 hi).1
  have hg : gslot all i = oi.dst := by simp [gslot, hi]
  constructor
  · rw [← hg]
    exact (TS_ins hSi (fun j hne => h.slots hne) all.length).2 hilt
  · refine (MS_ins hSi ?_ all.length).2 hilt
    rintro j hij hSj k ⟨h1, h2⟩
    obtain ⟨o1, ho1, c1, w1⟩ := h.cls_of_touch h1
    obtain ⟨o2, ho2, c2, w2⟩ := h.cls_of_touch h2
    have contra : befS all i j → False := by
      intro hb
      have := bef_closed hS j _ ho2 i hb (hS j _ ho2 hSj)
      rw [hSi] at this; cases this
    rcases h1 with h1 | h1
    · rcases h2 with h2 | h2
      · have a1 := h.ids h1
        have a2 := h.ids h2
        omega
      · exact contra (h.look.mem ho1 ho2 hij (.inr ⟨c1, w2 h2⟩))
    · exact contra (h.look.mem ho1 ho2 hij (.inl ⟨w1 h1, c2⟩))

end
end
end Go.Sx
