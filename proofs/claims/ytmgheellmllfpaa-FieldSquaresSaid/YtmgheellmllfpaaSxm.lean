/-
  The machine: loops, and contracts out of code. No conditions.
-/
import Derived.Test.YtmgheellmllfpaaSxl
import Derived.Deep.LoopGhost
namespace Go.Sx

/-! ### the machine, hidden from the kernel -/
theorem hid_ex.{u} {α : Sort u} (a : α) : ∃ b : α, b = a := ⟨a, rfl⟩
noncomputable def hid.{u} {α : Sort u} (a : α) : α := Classical.choose (hid_ex a)
theorem hid_eq.{u} {α : Sort u} (a : α) : hid a = a := Classical.choose_spec (hid_ex a)
noncomputable def vcx (P : Program) (Q : St → Prop) (n : Nat) (k : List Frm) (st : St) : Prop := hid (@vcs P Q) n k st
theorem vcx_eq {P : Program} {Q : St → Prop} {n : Nat} {k : List Frm} {st : St} : vcx P Q n k st = vcs P Q n k st := by unfold vcx; rw [hid_eq]
noncomputable def LoopX (P : Program) (Q : St → Prop) (c : Code) (k : List Frm) (st : St) : Prop := hid (@LoopVC P Q) c k st
theorem LoopX_eq {P : Program} {Q : St → Prop} {c : Code} {k : List Frm} {st : St} : LoopX P Q c k st = LoopVC P Q c k st := by unfold LoopX; rw [hid_eq]

section
variable {P : Program} {Q : St → Prop}

/-! ### loops -/
def St.le (s s' : St) : Prop := ∀ w0 ρ a w, SatN w0 ρ s a w → ∃ ρ', SatN w0 ρ' s' a w
theorem St.le_refl (s : St) : St.le s s := fun _ ρ _ _ h => ⟨ρ, h⟩

theorem loop_inv {c : Code} {k : List Frm} {st : St} (hm : P.follows .mixedOrders = true) (hk : noOps k) {γ : Type} (S : γ → St) (G : γ → Prop) (μ : γ → Nat) (g0 : γ) (h0 : G g0) (hle : St.le st (S g0)) (n : Nat)
    (round : ∀ g, G g → vcx P Q n (.code c :: .stop (fun s => ∃ g', G g' ∧ μ g' < μ g ∧ St.le s (S g')) :: k) (S g)) : LoopX P Q c k st := by
  rw [LoopX_eq]
  unfold LoopVC
  rw [SVX_code]
  intro w0 ρ a w hs
  obtain ⟨ρ', hs'⟩ := hle w0 ρ a w hs
  refine wp_loop_ghost (fun m a w => ∃ g ρ, G g ∧ μ g = m ∧ SatN w0 ρ (S g) a w) (μ g0) ⟨g0, ρ', h0, rfl, hs'⟩ ?_
  rintro m a w ⟨g, ρ, hg, rfl, hs⟩
  have hr := round g hg
  rw [vcx_eq] at hr
  have h1 := vcs_sound hm n _ (S g) (by exact hk) hr
  rw [SVX_code] at h1
  refine Code.wp_mono ?_ (h1 w0 ρ a w hs)
  rintro e a' w' ⟨ρ1, s1, hs1, he⟩
  cases e with
  | normal =>
    obtain ⟨g', hg', hlt, hle'⟩ := he
    obtain ⟨ρ2, hs2⟩ := hle' w0 ρ1 a' w' hs1
    exact ⟨μ g', hlt, g', ρ2, hg', rfl, hs2⟩
  | exit id => exact ⟨ρ1, s1, hs1, he⟩
  | ret => exact ⟨ρ1, s1, hs1, he⟩
  | _ => exact he.elim

def Rounds (P : Program) (Q : St → Prop) (c : Code) (k : List Frm) : Nat → St → Prop
  | 0, _ => False
  | n + 1, st => (SVX P Q (.code c :: .stop (Rounds P Q c k n) :: k)).1 st
noncomputable def RoundsVC (P : Program) (Q : St → Prop) (c : Code) (k : List Frm) (n : Nat) : St → Prop := hid (@Rounds P Q) c k n
theorem RoundsVC_eq {c : Code} {k : List Frm} {n : Nat} : RoundsVC P Q c k n = Rounds P Q c k n := by unfold RoundsVC; rw [hid_eq]

theorem RoundsVC.step {c : Code} {k : List Frm} {st : St} {m : Nat} (hm : P.follows .mixedOrders = true) (hk : noOps k) (n : Nat) (h : vcx P Q n (.code c :: .stop (RoundsVC P Q c k m) :: k) st) : RoundsVC P Q c k (m + 1) st := by
  rw [vcx_eq, RoundsVC_eq] at h
  rw [RoundsVC_eq]
  exact vcs_sound hm n _ st hk h

theorem loop_rounds {c : Code} {k : List Frm} {st : St} (m : Nat) (h : RoundsVC P Q c k m st) : LoopX P Q c k st := by
  rw [LoopX_eq]
  rw [RoundsVC_eq] at h
  unfold LoopVC
  rw [SVX_code]
  intro w0 ρ a w hs
  refine wp_loop_rounds m ?_
  induction m generalizing st ρ a w with
  | zero => exact h.elim
  | succ m ih =>
    rw [rounds_succ]
    have h : (SVX P Q (.code c :: .stop (Rounds P Q c k m) :: k)).1 st := h
    rw [SVX_code] at h
    refine Code.wp_mono ?_ (h w0 ρ a w hs)
    rintro e a' w' ⟨ρ1, s1, hs1, he⟩
    cases e with
    | normal => exact ih he ρ1 a' w' hs1
    | exit id => exact ⟨ρ1, s1, hs1, he⟩
    | ret => exact ⟨ρ1, s1, hs1, he⟩
    | _ => exact he.elim

/-! ### a state told with less -/
def ren : List (Nat × Nat) → Nat → Nat
  | [], k => k
  | (a, b) :: l, k => if k = a then b else ren l k
def A0le (σ : Nat → Nat) (M' : MemF) : A0 → A0 → Prop
  | _, .any => True
  | .v x, .v y => x = y
  | .p k off, .p k' off' => (M' k').isSome = true ∧ k = σ k' ∧ off = off'
  | .s k off len, .s k' off' len' => (M' k').isSome = true ∧ k = σ k' ∧ off = off' ∧ len = len'
  | .r k n, .r k' n' => (M' k').isSome = true ∧ k = σ k' ∧ n = n'
  | .r k n, .s k' off' n' => (M' k').isSome = true ∧ k = σ k' ∧ off' = 0 ∧ n = n'
  | _, _ => False
def AVle (σ : Nat → Nat) (M' : MemF) : AV → AV → Prop
  | _, .o .any => True
  | .o a, .o b => A0le σ M' a b
  | _, _ => False
def Tle (σ : Nat → Nat) (M' : MemF) : List AV → List AV → Prop
  | [], [] => True
  | a :: l, b :: l' => AVle σ M' a b ∧ Tle σ M' l l'
  | _, _ => False
def Ele : Ent → Ent → Prop
  | _, .dead => True
  | .box cs, .box cs' => cs = cs'
  | .row e s n xs, .row e' s' n' xs' => e = e' ∧ s = s' ∧ n = n' ∧ xs = xs'
  | .box cs, .view _ xs => cs = xs
  | .row _ _ _ ys, .view _ xs => ys = xs
  | .view fr ys, .view fr' xs => ys = xs ∧ (fr' = true → fr = true)
  | _, _ => False
def Mle (σ : Nat → Nat) (M : MemF) : Mem → Prop
  | [] => True
  | (k, e') :: m => (match M (σ k) with | some e => Ele e e' | none => False) ∧ Mle σ M m

theorem Tle_at {σ : Nat → Nat} {M' : MemF} : ∀ {l l' : List AV} (i : Nat), Tle σ M' l l' → AVle σ M' (l.getD i (.o .any)) (l'.getD i (.o .any))
  | [], [], _, _ => trivial
  | a :: l, b :: l', 0, h => h.1
  | a :: l, b :: l', i + 1, h => by simpa using Tle_at i h.2
  | [], _ :: _, _, h => h.elim
  | _ :: _, [], _, h => h.elim
theorem Tle_len {σ : Nat → Nat} {M' : MemF} : ∀ {l l' : List AV}, Tle σ M' l l' → l.length = l'.length
  | [], [], _ => rfl
  | _ :: _, _ :: _, h => by simp [Tle_len h.2]
  | [], _ :: _, h => h.elim
  | _ :: _, [], h => h.elim
theorem Mle_get {σ : Nat → Nat} {M : MemF} : ∀ {m : Mem} {k : Nat} {e' : Ent}, Mle σ M m → m.get k = some e' → ∃ e, M (σ k) = some e ∧ Ele e e'
  | [], _, _, _, h => by cases h
  | (j, e) :: m, k, e', hm, h => by
    simp only [Mem.get] at h
    split at h
    · rename_i hk
      subst hk
      simp only [Option.some.injEq] at h
      subst h
      have h1 := hm.1
      cases hM : M (σ k) with
      | none => simp [hM] at h1
      | some e0 => simp only [hM] at h1; exact ⟨e0, rfl, h1⟩
    · exact Mle_get hm.2 h
theorem mem_keys : ∀ {m : Mem} {k : Nat} {e : Ent}, m.get k = some e → k ∈ m.map Prod.fst
  | [], _, _, h => by cases h
  | (j, e0) :: m, k, e, h => by
    simp only [Mem.get] at h
    split at h
    · rename_i hk; simp [hk]
    · have := mem_keys h; simp only [List.map_cons, List.mem_cons]; exact .inr this

theorem nodup_inj {σ : Nat → Nat} : ∀ {l : List Nat}, (l.map σ).Nodup → ∀ a b, a ∈ l → b ∈ l → a ≠ b → σ a ≠ σ b
  | [], _, _, _, h, _, _ => by cases h
  | x :: l, hn, a, b, ha, hb, hne => by
    simp only [List.map_cons, List.nodup_cons] at hn
    intro e
    rcases List.mem_cons.1 ha with rfl | ha' <;> rcases List.mem_cons.1 hb with rfl | hb'
    · exact hne rfl
    · exact hn.1 (e ▸ List.mem_map.2 ⟨b, hb', rfl⟩)
    · exact hn.1 (e ▸ List.mem_map.2 ⟨a, ha', rfl⟩)
    · exact nodup_inj hn.2 a b ha' hb' hne e

theorem Ele_sat {B : Nat} {l : Loc} {w : World} {e e' : Ent} (h : EntSat B l w e) (hl : Ele e e') : EntSat B l w e' ∧ (e'.fresh = true → e.fresh = true) ∧ ∀ b, e'.blk l = some b → e.blk l = some b := by
  cases e' with
  | dead => exact ⟨trivial, by simp [Ent.fresh], by simp [blk_dead]⟩
  | box cs' =>
    cases e <;> simp only [Ele] at hl
    subst hl; exact ⟨h, fun _ => rfl, fun b hb => hb⟩
  | row e1 s1 n1 xs1 =>
    cases e <;> simp only [Ele] at hl
    obtain ⟨rfl, rfl, rfl, rfl⟩ := hl; exact ⟨h, fun _ => rfl, fun b hb => hb⟩
  | view fr xs =>
    cases e with
    | box cs =>
      simp only [Ele] at hl
      subst hl
      refine ⟨⟨?_, h.one rfl, ?_⟩, fun _ => rfl, ?_⟩
      · intro j u hj
        exact h.reads rfl (by intro e; subst e; simp at hj) j u hj
      · intro _ _; obtain ⟨b, ty, ha, hB, _⟩ := h; rw [ha]; exact hB
      · intro b hb
        simp only [Ent.blk] at hb ⊢
        split at hb
        · cases hb
        · exact hb
    | row e1 s1 n1 ys =>
      simp only [Ele] at hl
      subst hl
      have hrow := h
      obtain ⟨h1, h2, h3⟩ := h
      have hfact : ys ≠ [] → ∃ g c, l.v = .slice (some ⟨g, 0, none⟩) n1 c ∧ l.a = ⟨g, 0, none⟩ ∧ B ≤ g := by
        intro hne
        rcases h1.2 with ⟨hv, h0⟩ | ⟨g, cap, cur, hv, hg, _⟩
        · subst h0
          have := h1.1
          exact absurd (List.eq_nil_of_length_eq_zero (by simpa using this)) hne
        · exact ⟨g, cap, hv, h2 _ _ _ hv, hg⟩
      refine ⟨⟨?_, hrow.one rfl, ?_⟩, fun _ => rfl, ?_⟩
      · intro j u hj
        exact hrow.reads rfl (by intro e; subst e; simp at hj) j u hj
      · intro _ hne
        obtain ⟨g, c, _, ha, hg⟩ := hfact (by intro e; subst e; simp at hne)
        rw [ha]; exact hg
      · intro b hb
        simp only [Ent.blk] at hb
        split at hb
        · cases hb
        · rename_i hne
          obtain ⟨g, c, hv, ha, hg⟩ := hfact (by intro e; subst e; simp at hne)
          rw [ha] at hb
          rw [blk_row, hv]
          exact hb
    | view fr2 ys =>
      simp only [Ele] at hl
      obtain ⟨rfl, hfr⟩ := hl
      obtain ⟨h1, h2, h3⟩ := h
      exact ⟨⟨h1, h2, fun hf => h3 (hfr hf)⟩, hfr, fun b hb => hb⟩
    | dead => simp only [Ele] at hl

theorem St.le_of {s s' : St} (σ : Nat → Nat) (ht : Tle σ s'.m.get s.t s'.t) (hm : Mle σ s.m.get s'.m) (hnd : ((s'.m.map Prod.fst).map σ).Nodup) (hn : ∀ k ∈ s'.m.map Prod.fst, k < s'.n) : St.le s s' := by
  intro w0 ρ a w ⟨h, hid⟩
  refine ⟨fun k => ρ (σ k), ⟨h.below, ⟨?_, ?_⟩, ?_, by rw [← Tle_len ht]; exact h.size, h.defers⟩, ?_⟩
  · intro k e' hk
    obtain ⟨e, he, hle⟩ := Mle_get hm hk
    exact (Ele_sat (h.mem.ent _ _ he) hle).1
  · intro k e' k' e2' hk ho hk' hne
    obtain ⟨e, he, hle⟩ := Mle_get hm hk
    obtain ⟨e2, he2, hle2⟩ := Mle_get hm hk'
    obtain ⟨_, f1, f2⟩ := Ele_sat (h.mem.ent _ _ he) hle
    obtain ⟨_, g1, g2⟩ := Ele_sat (h.mem.ent _ _ he2) hle2
    have o1 := f1 ho
    have hσ := nodup_inj hnd k k' (mem_keys hk) (mem_keys hk') hne
    cases hb1 : e'.blk (ρ (σ k)) with
    | none => exact .inl rfl
    | some b =>
      refine .inr fun hc => ?_
      have c1 := f2 b hb1
      have c2 := g2 b hc.symm
      rcases h.mem.apart _ e _ e2 he o1 he2 hσ with h0 | h0
      · rw [c1] at h0; cases h0
      · exact h0 (by rw [c1, c2])
  · intro i
    have hA := Tle_at i ht
    have hd := h.slot i
    show Den _ _ (s'.t.getD i (.o .any)) _
    have hd : Den ρ s.m.get (s.t.getD i (.o .any)) (a.tmps.getD i undef) := hd
    revert hA hd
    generalize s.t.getD i (.o .any) = x
    generalize s'.t.getD i (.o .any) = y
    generalize a.tmps.getD i undef = z
    intro hA hd
    cases y with
    | t l => cases x with
      | o a0 => cases a0 <;> exact hA.elim
      | t l => exact hA.elim
    | o b =>
      cases b with
      | any => trivial
      | v q =>
        cases x with
        | o a0 => cases a0 <;> first | exact hA.elim | (have hA : _ = _ := hA; subst hA; exact hd)
        | t l => exact hA.elim
      | p k off =>
        cases x with
        | o a0 => cases a0 <;> first | exact hA.elim | (obtain ⟨h1, rfl, rfl⟩ := hA; exact ⟨h1, hd.2⟩)
        | t l => exact hA.elim
      | s k off len =>
        cases x with
        | o a0 =>
          cases a0 with
          | s k1 o1 l1 => obtain ⟨h1, rfl, rfl, rfl⟩ := hA; exact ⟨h1, hd.2⟩
          | r k1 n1 =>
            obtain ⟨h1, rfl, rfl, rfl⟩ := hA
            obtain ⟨_, _, o', cap, hz, hle, hor, hnil⟩ := hd
            exact ⟨h1, o', cap, hz, hle, by simpa [Addr.add] using hor, hnil⟩
          | _ => exact hA.elim
        | t l => exact hA.elim
      | r k n =>
        cases x with
        | o a0 => cases a0 <;> first | exact hA.elim | (obtain ⟨h1, rfl, rfl⟩ := hA; exact ⟨h1, hd.2⟩)
        | t l => exact hA.elim
  · intro j hj
    obtain ⟨e, he⟩ := Option.isSome_iff_exists.1 hj
    exact hn j (mem_keys he)

end
end Go.Sx
