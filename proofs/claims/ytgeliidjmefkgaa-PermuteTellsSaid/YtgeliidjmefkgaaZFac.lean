/-
  Facts: a slice that is known by its value alone is seen, a row is given a name. No conditions.
-/
import Derived.Test.YtgeliidjmefkgaaZAut
namespace Go.Sx
section
variable {P : Program}
theorem RawOp.le {s s' : St} {op : Op} {d : Option Nat} {ks : St → Prop} (hle : St.le s s') (h : RawOp P s' op d ks) : RawOp P s op d ks := by
  rintro o rfl rfl r g ρ a w K Q hs hK
  obtain ⟨ρ', hs'⟩ := hle g ρ a w hs
  exact h o rfl rfl r g ρ' a w K Q hs' hK
/-- The step, as the machine goes it. -/
theorem RawOp.go {Q : St → Prop} {n : Nat} {all rest : List Oper} {k : List Frm} {st : St} {d : Option Nat} {op : Op} (h : goOn P Q n .plain all rest k st d op (opEff P st.T st.m.get st.n op)) :
    RawOp P st op d fun st' => vcx P Q n (.ops .plain all rest :: k) st' := by
  rw [← opVC_go] at h
  have h2 : opVC P .plain st op d (fun u => vcx P Q n (.ops .plain all rest :: k) (st.put d u)) (fun st' => vcx P Q n (.ops .plain all rest :: k) st') := by
    simpa only [vcx_eq] using h
  rcases opVC_spec h2 with ⟨u, hok, hk, _⟩ | ⟨_, hraw⟩
  · rintro o rfl rfl r g ρ a w K Q' ⟨w0, hx, hs⟩ hK
    refine oper_in r (opOK_nodefer hok) ?_
    refine op_sound hs.1 (out_of hs.2) rfl hok ?_
    intro y w' ρ' h1 h2 h3 h4
    exact hK _ _ _ _ ⟨w0, hx, hs.put (fun k hk => h1 k (.inl hk)) (fun k e he => (opOK_ids hok k e he).2) h2 h3 h4⟩ hk
  · exact hraw
theorem RawVC.le {Q : St → Prop} {n : Nat} {all rest : List Oper} {k : List Frm} {st st' : St} {d : Option Nat} {op : Op} (hle : St.le st st') (h : goOn P Q n .plain all rest k st' d op (opEff P st'.T st'.m.get st'.n op)) :
    RawVC P Q n .plain all rest k st d op := .intro rfl ((RawOp.go h).le hle)
/-! ### seeing -/
theorem fresh_own {B : Nat → Prop} {l : Loc} {w : World} {e : Ent} {b : Nat} (h : EntSat B l w e) (hf : e.fresh = true) (hb : e.blk l = some b) : B b := by
  cases e with
  | view fr xs =>
    have hf : fr = true := hf
    simp only [Ent.blk] at hb
    split at hb
    · cases hb
    · rename_i hne
      simp only [Option.some.injEq] at hb
      rw [← hb]
      exact h.2.2 hf (by simpa using hne)
  | box cs => exact h.ge rfl hb
  | row e s n xs => exact h.ge rfl hb
  | hdr cs => exact h.ge rfl hb
  | _ => cases hf
/-- What a fact hangs on is no block of the call's own. -/
theorem fact_off {w0 : Base} {ρ : Nat → Loc} {M : MemF} {w : World} (h : SatM w0 ρ M w) (hb : Fr w0.w w w0.own) {k : Nat} {rt : Bool} {F : World → Prop} (hk : M k = some (.fact rt F)) {y : Value} {n size : Nat} {xs : List Value} (hF : ∀ w, F w → ReadsSlice w y n size xs)
    (hne : xs ≠ []) {b : Nat} (hB : w0.own b) (hlt : b < w.heap.size) : y.ownBlock ≠ some b := by
  intro hy
  have f : Fr w0.w ⟨w.heap.set! b (.cells #[] 0 (0, 0)), w.tape, w.drawn, w.os, w.output⟩ (w0.st rt) := by
    refine ⟨hb.os, hb.tape, hb.output, by simpa using hb.size, hb.drawn, fun c hc hn => ?_⟩
    have hcb : c ≠ b := fun e => hn (.inl (e ▸ hB))
    rw [← hb.block c hc (fun x => hn (.inl x))]
    simp [Array.getElem?_setIfInBounds, hcb, Ne.symm hcb]
  obtain ⟨o, cap, rfl, _, _, _, _, hr⟩ := hF _ (h.fct k rt F hk _ f)
  obtain ⟨a, rfl, hc⟩ := hr hne
  simp only [Value.ownBlock, Option.some.injEq] at hy
  cases xs with
  | nil => exact hne rfl
  | cons u xs =>
    have h0 := hc 0 u rfl
    have : a.add 0 = a := by simp [Addr.add]
    rw [this] at h0
    unfold World.cell? at h0
    rw [hy] at h0
    simp [hlt] at h0
/-- A slice that a fact tells of is seen. -/
theorem SatM.seeE {w0 : Base} {ρ : Nat → Loc} {m : Mem} {w : World} {id : Nat} (h : SatM w0 ρ m.get w) (hb : Fr w0.w w w0.own) (hid : ∀ k, (m.get k).isSome = true → k ≠ id) {k : Nat} {rt : Bool} {F : World → Prop} (hk : m.get k = some (.fact rt F)) {y : Value} {n size : Nat} {xs : List Value}
    (hF : ∀ w, F w → ReadsSlice w y n size xs) : SatM w0 (fun j => if j = id then newLoc y else ρ j) (Mem.get ((id, .view false xs) :: m)) w ∧ Den0 (fun j => if j = id then newLoc y else ρ j) (Mem.get ((id, .view false xs) :: m)) (.s id 0 n) y ∧
      (∀ j, (m.get j).isSome = true → (Mem.get ((id, .view false xs) :: m) j).isSome = true ∧ (if j = id then newLoc y else ρ j) = ρ j) := by
  obtain ⟨o, cap, rfl, hle, hlen, hnil, hone, hr⟩ := hF w (h.fct k rt F hk w (hb.mono fun b hb => .inl hb))
  have hl : ∀ j, (m.get j).isSome = true → (Mem.get ((id, .view false xs) :: m) j).isSome = true ∧ (if j = id then newLoc (.slice o n cap) else ρ j) = ρ j := by
    intro j hj
    have := hid j hj
    simp [Mem.get, this, hj]
  have hkey : ∀ j e, Mem.get ((id, .view false xs) :: m) j = some e → (j = id ∧ e = .view false xs) ∨ (j ≠ id ∧ m.get j = some e) := by
    intro j e hj
    simp only [Mem.get] at hj
    split at hj
    · simp only [Option.some.injEq] at hj; exact .inl ⟨by assumption, hj.symm⟩
    · exact .inr ⟨by assumption, hj⟩
  have hblk : ∀ b, (Ent.view false xs).blk (newLoc (.slice o n cap)) = some b → xs ≠ [] ∧ (Value.slice o n cap).ownBlock = some b := by
    intro b hbb
    simp only [Ent.blk] at hbb
    split at hbb
    · cases hbb
    · rename_i hne
      have hne : xs ≠ [] := by intro e; subst e; simp at hne
      obtain ⟨a, rfl, _⟩ := hr hne
      exact ⟨hne, by simpa [newLoc, Value.ownBlock] using hbb⟩
  have off : ∀ j e b, m.get j = some e → e.fresh = true → e.blk (ρ j) = some b → (Ent.view false xs).blk (newLoc (.slice o n cap)) ≠ some b := by
    intro j e b hj hf hbb hv
    obtain ⟨hne, ho⟩ := hblk b hv
    have he := h.ent j e hj
    exact fact_off h hb hk hF hne (fresh_own he hf hbb) (he.lt hbb) ho
  refine ⟨⟨fun j e hj => ?_, fun j cs hj => ?_, fun j i l hj => ?_, fun j e j' e' hj hf hj' hne => ?_, fun j rt F hj => ?_⟩, ⟨by simp [Mem.get], o, cap, rfl, hle, ?_, hnil⟩, hl⟩
  · rcases hkey j e hj with ⟨rfl, rfl⟩ | ⟨hji, hj⟩
    · simp only [if_true]
      refine ⟨fun t u hu => ?_, hone, by simp⟩
      have hne : xs ≠ [] := by intro e; subst e; simp at hu
      obtain ⟨a, rfl, hc⟩ := hr hne
      exact hc t u hu
    · simp only [hji, if_false]
      exact h.ent j e hj
  · rcases hkey j _ hj with ⟨_, h0⟩ | ⟨hji, hj⟩
    · cases h0
    · exact h.hdr_keep (ρ' := fun j => if j = id then newLoc (.slice o n cap) else ρ j) (Fr.refl w fun _ => False) hl hj (fun _ _ x => x)
  · rcases hkey j _ hj with ⟨_, h0⟩ | ⟨hji, hj⟩
    · cases h0
    · exact h.sav_keep (ρ' := fun j => if j = id then newLoc (.slice o n cap) else ρ j) hl hj
  · rcases hkey j e hj with ⟨_, h0⟩ | ⟨hji, hq⟩
    · rw [h0] at hf; simp [Ent.fresh] at hf
    · rcases hkey j' e' hj' with ⟨h0, h1⟩ | ⟨hji', hq'⟩
      · rw [h1]
        simp only [hji, h0, if_false, if_true]
        cases hbb : e.blk (ρ j) with
        | none => exact .inl rfl
        | some b => exact .inr (fun hc => off j e b hq hf hbb hc.symm)
      · simp only [hji, hji', if_false]
        exact h.apart j e j' e' hq hf hq' hne
  · rcases hkey j _ hj with ⟨_, h0⟩ | ⟨hji, hj⟩
    · cases h0
    · exact h.fct j rt F hj
  · by_cases h0 : n = 0
    · exact .inl h0
    · refine .inr ?_
      cases o with
      | none => have := hnil rfl; omega
      | some a => simp [newLoc, Addr.add]
theorem St.see_slot {st : St} {i k : Nat} {rt : Bool} {F : World → Prop} {y : Value} {n size : Nat} {xs : List Value} (hT : st.T i = .o (.v y)) (hk : st.m.get k = some (.fact rt F)) (hF : ∀ w, F w → ReadsSlice w y n size xs) :
    St.le st ⟨st.t.set i (.o (.s st.n 0 n)), (st.n, .view false xs) :: st.m, st.n + 4⟩ := by
  intro g ρ a w ⟨w0, hx, h, hid⟩
  obtain ⟨h1, h2, h3⟩ := h.mem.seeE (id := st.n) h.below (fun j hj => Nat.ne_of_lt (hid j hj)) hk hF
  refine ⟨_, w0, hx, ⟨h.below, h1, fun j => ?_, by simpa using h.size, h.defers⟩, fun j hj => ?_⟩
  · show Den _ _ ((st.t.set i (AV.o (.s st.n 0 n))).getD j (.o .any)) _
    have hs := h.slot j
    by_cases hij : i = j
    · subst hij
      rw [hT] at hs
      have hs : a.tmps.getD i undef = y := hs
      rw [hs]
      by_cases hl : i < st.t.length
      · rw [List.getD_eq_getElem?_getD, List.getElem?_set_self hl]
        exact h2
      · rw [List.getD_eq_getElem?_getD, List.getElem?_eq_none (by simpa using hl)]
        trivial
    · rw [List.getD_eq_getElem?_getD, List.getElem?_set_ne hij, ← List.getD_eq_getElem?_getD]
      exact hs.mono h3
  · show j < st.n + 4
    simp only [Mem.get] at hj
    split at hj
    · omega
    · have := hid j hj; omega
/-! ### naming -/
theorem EntSat.at' {B B' : Nat → Prop} {l : Loc} {w : World} {e : Ent} (h : EntSat B l w e) (hB : ∀ b, e.blk l = some b → B b → B' b) : EntSat B' l w e := by
  cases e with
  | box cs =>
    refine ⟨h.1, fun hne => ?_⟩
    obtain ⟨b, ty, cur, h1, h2, h3⟩ := h.2 hne
    exact ⟨b, ty, cur, h1, hB b (by simp only [Ent.blk, hne, h1]; rfl) h2, h3⟩
  | row e size n xs => exact ⟨h.1, h.2.1, h.2.2.1, fun b hb => hB b (by rw [blk_row]; exact hb) (h.2.2.2 b hb)⟩
  | view fr xs => exact ⟨h.1, h.2.1, fun h1 h2 => hB _ (by simp only [Ent.blk, h2]; rfl) (h.2.2 h1 h2)⟩
  | hdr cs =>
    intro hne
    obtain ⟨b, ty, cur, h1, h2, h3⟩ := h hne
    exact ⟨b, ty, cur, h1, hB b (by simp only [Ent.blk, hne, h1]; rfl) h2, h3⟩
  | sav j l => trivial
  | fact rt F => trivial
  | dead => trivial
theorem get_up1 (k : Nat) (e : Ent) : ∀ (m : Mem) (j : Nat), (upE [(k, e)] m).get j = if j = k then (m.get k).map fun _ => e else m.get j
  | [], j => by simp [upE, Mem.get]
  | (i, e0) :: m, j => by
    have ih := get_up1 k e m j
    simp only [upE] at ih ⊢
    simp only [List.map_cons, Mem.get]
    by_cases hji : j = i
    · subst hji
      by_cases hjk : j = k
      · subst hjk; simp
      · simp [hjk]
    · rw [if_neg hji, ih]
      by_cases hjk : j = k
      · subst hjk; simp [hji]
      · simp [hjk, hji]
/-- The base may write some blocks less. -/
theorem SatN.less {g : Base} {ρ : Nat → Loc} {st : St} {a : Act} {w : World} {w0 : Base} (hx : Ext g w0) (h : SatS w0 ρ st.T st.m.get st.t.length a w) (p : Nat → Prop) (hp : ∀ b, p b → b < w.heap.size) : ∃ w1 : Base, w1.w = w ∧ (∀ b, w1.own b ↔ (w0.own b ∧ ¬ p b)) ∧ w1.sv = w0.sv ∧ w1.df = w0.df ∧ w1.hid = w0.hid ∧ Ext g w1 := by
  refine ⟨⟨w, fun b => w0.own b ∧ ¬ p b, fun b hb => ⟨w0.new b (Nat.le_trans h.below.size hb), fun hpb => by have := hp b hpb; omega⟩, w0.sv, w0.df, w0.hid, fun b hb => w0.dis b hb.1⟩, rfl, fun b => Iff.rfl, rfl, rfl, rfl, ⟨h.below.below hx.below hx.own, fun b hb => hx.own b hb.1, hx.sv, hx.hid, ?_⟩⟩
  obtain ⟨Ds, d1, d2, d3⟩ := hx.df
  refine ⟨Ds, d1, d2, fun D hD => ?_⟩
  obtain ⟨q1, q2, q3, q4⟩ := d3 D hD
  exact ⟨Nat.lt_of_lt_of_le q1 h.below.size, fun hh => q2 hh.1, q3, (h.below.block D q1 q2).trans q4⟩
theorem reads_stable {w w3 : World} {bs : Nat → Prop} {y : Value} {n size : Nat} {xs : List Value} (f : Fr w w3 bs) (h : ReadsSlice w y n size xs) (hb : ∀ b, xs ≠ [] → y.ownBlock = some b → ¬ bs b) : ReadsSlice w3 y n size xs := by
  obtain ⟨o, cap, rfl, hle, hl, hnil, hone, hr⟩ := h
  refine ⟨o, cap, rfl, hle, hl, hnil, hone, fun hne => ?_⟩
  obtain ⟨a, rfl, hc⟩ := hr hne
  refine ⟨a, rfl, fun j u hu => ?_⟩
  have h1 := hc j u hu
  rw [World.cell?_of_block (w := w) ?_]
  · exact h1
  · refine f.block _ (World.block_lt_of_cell? w _ h1) ?_
    rw [addr_add_block]
    exact hb _ hne rfl
theorem row_reads {w : World} {e size n : Nat} {xs : List Value} {l : Loc} {B : Nat → Prop} (h : EntSat B l w (.row e size n xs)) : ReadsSlice w l.v n size xs := by
  obtain ⟨g1, g2, g3, g4⟩ := h
  rcases g1.2 with ⟨hv, h0⟩ | ⟨g, cap, cur, hv, _, _, hnc, _⟩
  · subst h0
    exact ⟨none, 0, hv, Nat.le_refl _, g1.1, fun _ => rfl, g3, fun hne => absurd (List.eq_nil_of_length_eq_zero (by simpa using g1.1)) hne⟩
  · exact ⟨_, cap, hv, hnc, g1.1, by simp, g3, fun _ => ⟨_, rfl, g1.cells (g := g) (by simp [hv, Value.ownBlock])⟩⟩
theorem SatN.name {g : Base} {ρ : Nat → Loc} {st : St} {a : Act} {w : World} (hs : SatN g ρ st a w) {i k n0 e n size : Nat} {xs : List Value} (hT : st.T i = .o (.r k n0)) (hk : st.m.get k = some (.row e size n xs)) :
    ∃ y, (∃ w, ReadsSlice w y n size xs) ∧ SatN g ρ ⟨st.t.set i (.o (.v y)), upE [(k, .fact true fun w => ReadsSlice w y n size xs)] st.m, st.n⟩ a w := by
  obtain ⟨w0, hx, h, hid⟩ := hs
  have hent := h.mem.ent k _ hk
  have hrd := row_reads hent
  refine ⟨(ρ k).v, ⟨w, hrd⟩, ?_⟩
  have hpl : ∀ b, (ρ k).v.ownBlock = some b → b < w.heap.size := fun b hb => hent.lt (by rw [blk_row]; exact hb)
  obtain ⟨w1, e1, e2, e3, e4, e5, hx1⟩ := SatN.less hx h (fun b => (ρ k).v.ownBlock = some b) hpl
  have hkey : ∀ j e', (upE [(k, .fact true fun w => ReadsSlice w (ρ k).v n size xs)] st.m).get j = some e' → (j = k ∧ e' = .fact true fun w => ReadsSlice w (ρ k).v n size xs) ∨ (j ≠ k ∧ st.m.get j = some e') := by
    intro j e' hj
    rw [get_up1] at hj
    split at hj
    · rw [hk] at hj
      simp only [Option.map_some, Option.some.injEq] at hj
      exact .inl ⟨by assumption, hj.symm⟩
    · exact .inr ⟨by assumption, hj⟩
  have hl : ∀ j, (st.m.get j).isSome = true → ((upE [(k, .fact true fun w => ReadsSlice w (ρ k).v n size xs)] st.m).get j).isSome = true ∧ ρ j = ρ j := by
    intro j hj
    refine ⟨?_, rfl⟩
    rw [get_up1]
    split
    · rw [hk]; rfl
    · exact hj
  refine ⟨w1, hx1, ⟨by rw [e1]; exact Fr.refl _ _, ⟨fun j e' hj => ?_, fun j cs hj => ?_, fun j i' l hj => ?_, fun j e' j' e2' hj hf hj' hne => ?_, fun j rt F hj w3 h3 => ?_⟩, fun j => ?_, ?_, ?_⟩, fun j hj => ?_⟩
  · rcases hkey j e' hj with ⟨_, rfl⟩ | ⟨hjk, hq⟩
    · trivial
    · refine (h.mem.ent j e' hq).at' fun b hb hB => (e2 b).2 ⟨hB, fun hpb => ?_⟩
      rcases h.mem.apart k _ j e' hk rfl hq (Ne.symm hjk) with h0 | h0
      · rw [blk_row, hpb] at h0; cases h0
      · exact h0 (by rw [blk_row, hb]; exact hpb)
  · rcases hkey j _ hj with ⟨_, h0⟩ | ⟨hjk, hq⟩
    · cases h0
    · exact h.mem.hdr_keep (Fr.refl w fun _ => False) hl hq (fun _ _ x => x)
  · rcases hkey j _ hj with ⟨_, h0⟩ | ⟨hjk, hq⟩
    · cases h0
    · rw [e3]
      exact h.mem.sav_keep hl hq
  · rcases hkey j e' hj with ⟨_, h0⟩ | ⟨hjk, hq⟩
    · rw [h0] at hf; simp [Ent.fresh] at hf
    · rcases hkey j' e2' hj' with ⟨_, h0⟩ | ⟨hjk', hq'⟩
      · rw [h0]
        cases hb : e'.blk (ρ j) with
        | none => exact .inl rfl
        | some b => exact .inr (by simp [Ent.blk])
      · exact h.mem.apart j e' j' e2' hq hf hq' hne
  · rcases hkey j _ hj with ⟨_, h0⟩ | ⟨hjk, hq⟩
    · simp only [Ent.fact.injEq] at h0
      obtain ⟨rfl, rfl⟩ := h0
      rw [e1] at h3
      refine reads_stable h3 hrd fun b _ hb hst => ?_
      have hB : w0.own b := hent.2.2.2 b hb
      rcases hst with hst | ⟨_, hst⟩ | ⟨o, h5, h6⟩
      · exact ((e2 b).1 hst).2 hb
      · rw [e5] at hst; exact w0.dis b hB hst
      · rw [e1] at h5
        obtain ⟨cur, ty, c, hc⟩ := hent.isCells (b := b) (by rw [blk_row]; exact hb)
        rw [hc] at h5
        cases h5
        cases h6
    · refine h.mem.fct j rt F hq w3 (st_trans (w1 := w1) h.below (fun c _ _ _ => by rw [e1]) ⟨by rw [e1], by rw [e1], by rw [e1], by rw [e1]; exact Nat.le_refl _, by rw [e1]; exact Nat.le_refl _⟩ (fun b hb => .inl ((e2 b).1 hb).1) e5 h3)
  · show Den _ _ ((st.t.set i (AV.o (.v (ρ k).v))).getD j (.o .any)) _
    have hs := h.slot j
    by_cases hij : i = j
    · subst hij
      rw [hT] at hs
      by_cases hl : i < st.t.length
      · rw [List.getD_eq_getElem?_getD, List.getElem?_set_self hl]
        exact hs.2.1
      · rw [List.getD_eq_getElem?_getD, List.getElem?_eq_none (by simpa using hl)]
        trivial
    · rw [List.getD_eq_getElem?_getD, List.getElem?_set_ne hij, ← List.getD_eq_getElem?_getD]
      exact hs.mono hl
  · simpa using h.size
  · rw [h.defers, e4]
  · show j < st.n
    rw [get_up1] at hj
    split at hj
    · rename_i hjk; rw [hjk]; exact hid k (by rw [hk]; rfl)
    · exact hid j hj
/-- A row gets a name. -/
theorem RawOp.name {st : St} {op : Op} {d : Option Nat} {ks : St → Prop} (i k : Nat) {n0 e n size : Nat} {xs : List Value} (hT : st.T i = .o (.r k n0)) (hk : st.m.get k = some (.row e size n xs))
    (h : ∀ y, (∃ w, ReadsSlice w y n size xs) → RawOp P ⟨st.t.set i (.o (.v y)), upE [(k, .fact true fun w => ReadsSlice w y n size xs)] st.m, st.n⟩ op d ks) : RawOp P st op d ks := by
  rintro o rfl rfl r g ρ a w K Q hs hK
  obtain ⟨y, hy, hs'⟩ := hs.name hT hk
  exact h y hy o rfl rfl r g ρ a w K Q hs' hK
theorem RawVC.name {Q : St → Prop} {n1 : Nat} {all rest : List Oper} {kk : List Frm} {st : St} {d : Option Nat} {op : Op} (i k : Nat) {n0 e n size : Nat} {xs : List Value} (hT : st.T i = .o (.r k n0)) (hk : st.m.get k = some (.row e size n xs))
    (h : ∀ y, (∃ w, ReadsSlice w y n size xs) → goOn P Q n1 .plain all rest kk ⟨st.t.set i (.o (.v y)), upE [(k, .fact true fun w => ReadsSlice w y n size xs)] st.m, st.n⟩ d op (opEff P (St.T ⟨st.t.set i (.o (.v y)), upE [(k, .fact true fun w => ReadsSlice w y n size xs)] st.m, st.n⟩) (St.m ⟨st.t.set i (.o (.v y)), upE [(k, .fact true fun w => ReadsSlice w y n size xs)] st.m, st.n⟩).get (St.n ⟨st.t.set i (.o (.v y)), upE [(k, .fact true fun w => ReadsSlice w y n size xs)] st.m, st.n⟩) op)) :
    RawVC P Q n1 .plain all rest kk st d op := .intro rfl (RawOp.name i k hT hk fun y hy => RawOp.go (h y hy))
/-! ### values alone -/
theorem X_lenV {T : Nat → AV} {x : Operand} {tys : Array TypeId} {ty : TypeId} {y : Value} {n : Nat} (ht : tys[0]? = some ty) (hu : ∃ e, P.underlying ty = some (.slice e)) (hx : ev T x = .o (.v y)) (hy : ∃ o c, y = .slice o n c) :
    pureOp P T (.call { callee := .builtin .len, args := #[x], argTypes := tys }) (.int .i64 n) := by
  intro o f w ho hf _
  have e1 := hf x (by simp [Op.operands, Go.Call.operands]) _ hx
  obtain ⟨e, hu⟩ := hu
  obtain ⟨o', c, rfl⟩ := hy
  simp [execOp, ho, resolve, invoke, builtin, e1, Builtin.len_, ht, run_underlying hu]
  rfl
theorem reads_len {w : World} {y : Value} {n size : Nat} {xs : List Value} (h : ReadsSlice w y n size xs) : ∃ o c, y = .slice o n c := by
  obtain ⟨o, c, h, _⟩ := h; exact ⟨o, c, h⟩
theorem reads_one {w : World} {y : Value} {n size : Nat} {xs : List Value} (h : ReadsSlice w y n size xs) : y.oneCell' = true ∧ y.cells = #[y] := by
  obtain ⟨o, c, rfl, _⟩ := h; exact ⟨rfl, rfl⟩
theorem SatS.put' {w0 : Base} {ρ : Nat → Loc} {st : St} {a : Act} {w : World} (h : SatS w0 ρ st.T st.m.get st.t.length a w) (hid : ∀ j, (st.m.get j).isSome = true → j < st.n) {d : Option Nat} {u : Upd} {y : Value} {w' : World} {ρ' : Nat → Loc}
    (hρ : ∀ k, k < st.n → ρ' k = ρ k) (hcr : ∀ k e, u.cr.get k = some e → k < st.n + 4) (hm : SatM w0 ρ' (applyM st.m.get u) w') (hb : Fr w0.w w' w0.own) (hd : Den ρ' (applyM st.m.get u) u.r y) :
    SatI w0 ρ' (st.put d u) (a.put d y) w' := SatI.put ⟨h, hid⟩ hρ hcr hm hb hd
/-! ### a literal of four slices -/
theorem St.le_trans {s1 s2 s3 : St} (h : St.le s1 s2) (h' : St.le s2 s3) : St.le s1 s3 := by
  intro g ρ a w hs
  obtain ⟨ρ', hs'⟩ := h g ρ a w hs
  exact h' g ρ' a w hs'
end
end Go.Sx
