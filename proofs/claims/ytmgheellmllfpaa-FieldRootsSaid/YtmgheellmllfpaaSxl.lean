/-
  The machine: code as a whole (vcs_sound), loops, and contracts out of code. No conditions.
-/
import Derived.Test.YtmgheellmllfpaaSxk
namespace Go.Sx
section
variable {P : Program} {Q : St → Prop}

theorem TrL_len {all : List Oper} : ∀ {rest : List Oper} {us : List Upd} {st st' : St}, TrL P all rest us st st' → us.length = rest.length
  | [], [], _, _, _ => rfl
  | _ :: _, _ :: _, _, _, h => by simp [TrL_len h.2]
  | [], _ :: _, _, _, h => h.elim
  | _ :: _, [], _, _, h => h.elim

def Lst (listed : Array Bool) : Nat → Bool := fun j => listed.getD j false

theorem Lst_set {listed : Array Bool} {i : Nat} (hi : i < listed.size) : Lst (listed.setIfInBounds i true) = ins (Lst listed) i := by
  funext j
  simp only [Lst, ins]
  by_cases h : j = i
  · subst h; simp [hi]
  · rw [if_neg h, getD_set_ne false (Ne.symm h)]

theorem any_sound {N : Nat} {all : List Oper} {us : List Upd} {T0 : Nat → AV} {M0 : MemF} {n0 : Nat} (h : Tr P N all us T0 M0 n0) {w0 : World} {Q' : Exit → Act → World → Prop}
    (hfin : ∀ ρ a w, SatS w0 ρ (TS N all us tt T0 all.length) (MS us tt M0 all.length) N a w → Q' .normal a w) :
    ∀ (fuel : Nat) (listed : Array Bool) (l : List Nat) (ρ : Nat → Loc) (a : Act) (w : World), listed.size = all.length → Closed all (Lst listed) → l.length ≤ fuel → (∀ j, j < all.length → Lst listed j = false → j ∈ l) →
      SatS w0 ρ (TS N all us (Lst listed) T0 all.length) (MS us (Lst listed) M0 all.length) N a w → wpAny P .any all.toArray Q' fuel listed a w := by
  have done : ∀ (listed : Array Bool) (ρ : Nat → Loc) (a : Act) (w : World), listed.size = all.length → SatS w0 ρ (TS N all us (Lst listed) T0 all.length) (MS us (Lst listed) M0 all.length) N a w →
      Region.ready .any all.toArray listed = [] → Q' .normal a w := by
    intro listed ρ a w hsz hs hr
    have hall : ∀ j, j < all.length → Lst listed j = true := by
      intro j
      induction j using Nat.strongRecOn with
      | _ j ih =>
        intro hj
        cases hL : Lst listed j with
        | true => rfl
        | false =>
          exfalso
          have hmem : j ∈ Region.ready .any all.toArray listed := by
            rw [mem_ready]
            refine ⟨?_, all[j], by simp [hj], fun e he hb => ?_⟩
            · have hjs : j < listed.size := by rw [hsz]; exact hj
              simp only [Lst, Array.getD_eq_getD_getElem?, Array.getElem?_eq_getElem hjs, Option.getD_some] at hL ⊢
              exact hL
            · have ho := h.look.one j _ (List.getElem?_eq_getElem hj)
              unfold oneOK at ho
              simp only [Bool.and_eq_true, List.all_eq_true, Bool.or_eq_true, Bool.not_eq_true', decide_eq_true_eq] at ho
              rcases ho.1.2 e (by simpa using he) with h' | h'
              · rw [hb] at h'; cases h'
              · exact ih e.on h' (by omega)
          rw [hr] at hmem
          cases hmem
    rw [TS_congr (S' := tt) all.length (fun j hj => hall j hj), MS_congr (S' := tt) all.length (fun j hj => hall j hj)] at hs
    exact hfin ρ a w hs
  intro fuel
  induction fuel with
  | zero =>
    intro listed l ρ a w hsz hcl hl hcov hs
    have hr : Region.ready .any all.toArray listed = [] := by
      rw [List.eq_nil_iff_forall_not_mem]
      intro i hi
      rw [mem_ready] at hi
      obtain ⟨h1, o, ho, _⟩ := hi
      have hilt : i < all.length := by have := (Array.getElem?_eq_some_iff.1 ho).1; simpa using this
      have hLi : Lst listed i = false := by
        have his : i < listed.size := by rw [hsz]; exact hilt
        simp only [Lst, Array.getD_eq_getD_getElem?, Array.getElem?_eq_getElem his, Option.getD_some] at h1 ⊢
        exact h1
      have := hcov i hilt hLi
      have hln : l = [] := List.eq_nil_of_length_eq_zero (by omega)
      rw [hln] at this
      cases this
    exact ⟨hr, done listed ρ a w hsz hs hr⟩
  | succ fuel ih =>
    intro listed l ρ a w hsz hcl hl hcov hs
    refine ⟨fun hr => done listed ρ a w hsz hs hr, fun i hi => ?_⟩
    rw [mem_ready] at hi
    obtain ⟨h1, oi, hoi, hready⟩ := hi
    have hilt : i < all.length := by have := (Array.getElem?_eq_some_iff.1 hoi).1; simpa using this
    have his : i < listed.size := by rw [hsz]; exact hilt
    have hLi : Lst listed i = false := by
      simp only [Lst, Array.getD_eq_getD_getElem?, Array.getElem?_eq_getElem his, Option.getD_some] at h1 ⊢
      exact h1
    have hoi' : all[i]? = some oi := by simpa using hoi
    have hready' : ∀ e ∈ oi.after.toList, Region.binds .any e = true → Lst listed e.on = true := fun e he hb => hready e (by simpa using he) hb
    have hcl' : Closed all (Lst (listed.setIfInBounds i true)) := by
      rw [Lst_set his]
      intro j o ho hj e he hb
      simp only [ins] at hj ⊢
      split
      · rfl
      · by_cases hji : j = i
        · subst hji
          rw [hoi'] at ho
          simp only [Option.some.injEq] at ho
          subst ho
          exact hready' e he hb
        · simp only [hji, if_false] at hj
          exact hcl j o ho hj e he hb
    have hcov' : ∀ j, j < all.length → Lst (listed.setIfInBounds i true) j = false → j ∈ l.erase i := by
      intro j hj hLj
      rw [Lst_set his] at hLj
      simp only [ins] at hLj
      split at hLj
      · cases hLj
      · rename_i hji
        exact (List.mem_erase_of_ne hji).2 (hcov j hj hLj)
    have hlen' : (l.erase i).length ≤ fuel := by
      rw [List.length_erase_of_mem (hcov i hilt hLi)]
      have : 0 < l.length := List.length_pos_of_mem (hcov i hilt hLi)
      omega
    obtain ⟨e1, e2⟩ := h.ins hcl hoi' hLi
    have next : ∀ ρ' a' w', SatS w0 ρ' (TS N all us (ins (Lst listed) i) T0 all.length) (MS us (ins (Lst listed) i) M0 all.length) N a' w' → wpAny P .any all.toArray Q' fuel (listed.setIfInBounds i true) a' w' := by
      intro ρ' a' w' hs'
      refine ih _ (l.erase i) ρ' a' w' (by simpa using hsz) hcl' hlen' hcov' ?_
      rw [Lst_set his]
      exact hs'
    obtain ⟨sti, hT, hM, hn, hstep⟩ := h.step i oi hoi'
    have hgs : ∀ g want, oi.guard = some (g, want) → ∀ s, gslot all g = some s → TS N all us (Lst listed) T0 all.length s = sti.T s := by
      intro g want hg s hsl
      rw [hT]
      refine h.T_agree hcl hoi' hLi hready' ?_
      unfold Oper.looksAt
      rw [hg]
      simp only [List.mem_append, Option.mem_toList]
      exact .inr (by simpa [gslot] using hsl)
    unfold wpOp
    rw [hoi]
    simp only []
    have put_sat : ∀ {ρ' : Nat → Loc} {y : Value} {w' : World}, (∀ k, Out (n0 + 4 * i) k → ρ' k = ρ k) → SatM w0.heap.size ρ' (applyM (MS us (Lst listed) M0 all.length) (us.getD i undU)) w' → RowKit.Below w0.heap.size w0 w' →
        Den ρ' (applyM (MS us (Lst listed) M0 all.length) (us.getD i undU)) (us.getD i undU).r y → SatS w0 ρ' (TS N all us (ins (Lst listed) i) T0 all.length) (MS us (ins (Lst listed) i) M0 all.length) N (a.put oi.dst y) w' := by
      intro ρ' y w' hρ hm hb hd
      rw [e1, e2]
      refine ⟨hb, hm, fun x => ?_, ?_, ?_⟩
      · rw [put_tmps, hs.size]
        simp only [setT]
        split
        · exact hd
        · refine (hs.slot x).mono fun k hk => ⟨live_applyM hk, hρ k ?_⟩
          rcases MS_dom all.length hk with hk | ⟨j, hj, hSj, hcr⟩
          · exact .inl (by have := h.dom k hk; omega)
          · have hid := h.ids hcr
            have hne : j ≠ i := by intro e; subst e; rw [hLi] at hSj; cases hSj
            unfold Out
            omega
      · rw [← hs.size]; cases oi.dst <;> simp [Act.put]
      · cases oi.dst <;> simp [Act.put, hs.defers]
    rcases hstep with ⟨hr, hok, hw⟩ | ⟨hr, hu⟩
    · have hwanted : Region.wanted oi (yielded all.toArray a.tmps) = true := by
        rcases hr with hg | ⟨j, want, s, hg, hsl, hb⟩
        · simp [Region.wanted, hg]
        · have := hgs j want hg s hsl
          simp [Region.wanted, hg, yielded_of hs hsl (this.trans hb)]
      rw [if_pos hwanted]
      refine .inl ?_
      have hone := h.look.one i oi hoi'
      unfold oneOK at hone
      simp only [Bool.and_eq_true, bne_iff_ne, ne_eq] at hone
      have hlook : ∀ x ∈ oi.op.operands.toList, ev (TS N all us (Lst listed) T0 all.length) x = ev sti.T x := by
        intro x hx
        cases x with
        | tmp t =>
          simp only [ev]
          rw [hT]
          refine h.T_agree hcl hoi' hLi hready' ?_
          unfold Oper.looksAt
          simp only [List.mem_append, List.mem_filterMap]
          exact .inl ⟨.tmp t, hx, rfl⟩
        | _ => rfl
      have hok' : OpOK P (TS N all us (Lst listed) T0 all.length) (MS us (Lst listed) M0 all.length) sti.n oi.op (us.getD i undU) := by
        refine opOK_local hok hs hlook (fun hc k e hk hsome => ?_) hone.1.1.1
        rw [hM] at hk
        exact h.M_agree hcl hoi' hLi hready' hc k e hk hsome
      refine op_sound hs (id := sti.n) ?_ rfl hok' ?_
      · intro k hk
        rw [hn]
        rcases MS_dom all.length hk with hk | ⟨j, hj, hSj, hcr⟩
        · exact .inl (by have := h.dom k hk; omega)
        · have hid := h.ids hcr
          have hne : j ≠ i := by intro e; subst e; rw [hLi] at hSj; cases hSj
          unfold Out
          omega
      · intro y w' ρ' g1 g2 g3 g4
        exact next _ _ _ (put_sat (fun k hk => g1 k (by rw [hn]; exact hk)) g2 g3 g4)
    · have hskip : Region.wanted oi (yielded all.toArray a.tmps) = false := by
        obtain ⟨j, want, s, hg, hsl, hb⟩ := hr
        have := hgs j want hg s hsl
        simp [Region.wanted, hg, yielded_of hs hsl (this.trans hb)]
      rw [if_neg (by rw [hskip]; simp)]
      refine next ρ _ _ (put_sat (fun _ _ => rfl) ?_ hs.below ?_)
      · rw [hu, undU, applyM_nil]; exact hs.mem
      · rw [hu, undU, applyM_nil]; exact rfl

/-- One draw more. -/
theorem SatS.drew {w0 : World} {ρ : Nat → Loc} {T : Nat → AV} {M : MemF} {N : Nat} {a : Act} {w : World} (h : SatS w0 ρ T M N a w) : SatS w0 ρ T M N a { w with drawn := w.drawn + 1 } := by
  refine ⟨h.below.drew, ⟨fun k e hk => ?_, h.mem.apart⟩, h.slot, h.size, h.defers⟩
  exact (h.mem.ent k e hk).frame (bs := fun _ => False) ⟨rfl, rfl, rfl, Nat.le_refl _, fun _ _ _ => rfl⟩ (fun _ _ x => x)

theorem region_sound {all : List Oper} {k : List Frm} {n : Nat} (hm : P.follows .mixedOrders = true) (ih : ∀ m, m < n → ∀ st, vcs P Q m k st → (SVX P Q k).1 st) {rid : Nat} {ops : Array Oper} (hops : ops.toList = all) (hlook : orderOK all = true)
    {st : St} (h : vcs P Q n (.ops true all all :: k) st) {w0 : World} {ρ : Nat → Loc} {a : Act} {w : World} (hs : SatN w0 ρ st a w) : (Code.region rid ops true).wp P (PostS P Q w0 k) a w := by
  obtain ⟨us, st', htr, m', hm', hv⟩ := vcs_trace n all st h
  have hlen := TrL_len htr
  obtain ⟨f1, f2, f3, f4, f5⟩ := TrL_at (N := st.t.length) (T0 := st.T) (M0 := st.m.get) (n0 := st.n) all us 0 st st' htr rfl rfl rfl rfl (by omega) rfl
  simp only [Nat.zero_add] at f2 f3 f4
  have hT : Tr P st.t.length all us st.T st.m.get st.n := ⟨look_of hlook, fun j o ho => f1 j o (Nat.zero_le _) ho, hs.2, hlen⟩
  refine wp_region_any hm ?_
  have hops' : ops = all.toArray := by rw [← hops]
  rw [hops']
  have hempty : ∀ j, Lst (Array.replicate all.toArray.size false) j = false := by intro j; simp [Lst, Array.getElem?_replicate]; split <;> simp
  refine any_sound hT (w0 := w0) (Q' := PostS P Q w0 k) ?_ all.toArray.size _ (List.range all.length) ρ a _ (by simp) ?_ (by simp) (fun j hj _ => by simpa using hj) ?_
  · intro ρ' a' w' hs'
    refine ⟨ρ', st', ⟨?_, ?_⟩, ih m' hm' st' hv⟩
    · rw [f2, f3, f5]; exact hs'
    · intro j hj
      rw [f3] at hj
      rw [f4]
      rcases MS_dom all.length hj with h1 | ⟨j', h1, _, h3⟩
      · have := hs.2 j h1; omega
      · have := hT.ids h3; omega
  · intro j o _ hj
    rw [hempty] at hj
    cases hj
  · have e1 : TS st.t.length all us (Lst (Array.replicate all.toArray.size false)) st.T all.length = st.T := by
      funext x
      exact TS_other all.length (fun j _ hj => by rw [hempty] at hj; cases hj)
    have e2 : ∀ p, MS us (Lst (Array.replicate all.toArray.size false)) st.m.get p = st.m.get := by
      intro p
      induction p with
      | zero => rfl
      | succ p ihp => simp only [MS]; rw [hempty]; exact ihp
    rw [e1, e2]
    exact hs.1.drew

theorem SVX_code (k : List Frm) (c : Code) (st : St) : (SVX P Q (.code c :: k)).1 st = ∀ w0 ρ a w, SatN w0 ρ st a w → c.wp P (PostS P Q w0 k) a w := by
  apply propext
  constructor
  · intro h w0 ρ a w hs
    refine Code.wp_mono ?_ (h w0 ρ a w hs.1 hs.2)
    rintro e a' w' ⟨ρ', st', h1, h2, h3⟩
    exact ⟨ρ', st', ⟨h1, h2⟩, by cases e <;> exact h3⟩
  · intro h w0 ρ a w h1 h2
    refine Code.wp_mono ?_ (h w0 ρ a w ⟨h1, h2⟩)
    rintro e a' w' ⟨ρ', st', ⟨h1, h2⟩, h3⟩
    exact ⟨ρ', st', h1, h2, by cases e <;> exact h3⟩

def noOps : List Frm → Prop
  | [] => True
  | .ops _ _ _ :: _ => False
  | _ :: k => noOps k
theorem noOps_pop : ∀ {k k' : List Frm} {id : Nat}, noOps k → pop k id = some k' → noOps k'
  | [], _, _, _, h => by simp [pop] at h
  | .block j :: k, k', id, hn, h => by
    simp only [pop] at h
    split at h
    · simp only [Option.some.injEq] at h; subst h; exact hn
    · exact noOps_pop (k := k) hn h
  | .stop _ :: k, _, _, hn, h => noOps_pop (k := k) hn h
  | .code _ :: k, _, _, hn, h => noOps_pop (k := k) hn h
  | .ops _ _ _ :: _, _, _, hn, _ => hn.elim

/-- What is shown of a stack holds of it. -/
theorem vcs_sound (hm : P.follows .mixedOrders = true) : ∀ (n : Nat) (k : List Frm) (st : St), noOps k → vcs P Q n k st → (SVX P Q k).1 st := by
  intro n
  induction n using Nat.strongRecOn with
  | _ n ih =>
    intro k st hno h
    cases n with
    | zero => exact h.elim
    | succ n =>
      have ih' : ∀ m, m < n + 1 → ∀ k, noOps k → ∀ st, vcs P Q m k st → (SVX P Q k).1 st := fun m hm k hk st hv => ih m hm k st hk hv
      cases k with
      | nil => exact h
      | cons f k =>
        cases f with
        | stop K => exact h
        | ops dr all rest => exact hno.elim
        | block j => exact ih' n (by omega) k hno st h
        | code c =>
          have hno' : noOps k := hno
          rw [SVX_code]
          intro w0 ρ a w hs
          cases c with
          | skip => exact wp_skip ⟨ρ, st, hs, ih' n (by omega) k hno' st h⟩
          | ret => exact wp_ret ⟨ρ, st, hs, h⟩
          | exit id =>
            refine wp_exit ⟨ρ, st, hs, ?_⟩
            simp only [vcs] at h
            split at h
            · rename_i k' hk'
              exact pop_SVX hk' (ih' n (by omega) k' (noOps_pop hno' hk') st h)
            · exact h.elim
          | loop c =>
            have h : LoopVC P Q c k st := h
            unfold LoopVC at h
            rw [SVX_code] at h
            exact h w0 ρ a w hs
          | block id c =>
            have h : vcs P Q n (.code c :: .block id :: k) st := h
            have h1 := ih' n (by omega) (.code c :: .block id :: k) hno' st h
            rw [SVX_code] at h1
            refine wp_block (Code.wp_mono ?_ (h1 w0 ρ a w hs))
            rintro e a' w' ⟨ρ', st', hs', he⟩
            cases e with
            | normal => exact ⟨ρ', st', hs', he⟩
            | exit id' =>
              simp only [Exit.inBlock]
              have he : if id' = id then (SVX P Q k).1 st' else (SVX P Q k).2 id' st' := he
              by_cases hid : id' = id
              · simp only [hid, if_true] at he ⊢
                exact ⟨ρ', st', hs', he⟩
              · simp only [hid, if_false] at he ⊢
                exact ⟨ρ', st', hs', he⟩
            | ret => exact ⟨ρ', st', hs', he⟩
            | _ => exact he.elim
          | seq x y =>
            have h : vcs P Q n (.code x :: .code y :: k) st := h
            have h1 := ih' n (by omega) (.code x :: .code y :: k) hno' st h
            rw [SVX_code] at h1
            refine wp_seq (Code.wp_mono ?_ (h1 w0 ρ a w hs))
            rintro e a' w' ⟨ρ', st', hs', he⟩
            cases e with
            | normal =>
              have he : (SVX P Q (.code y :: k)).1 st' := he
              rw [SVX_code] at he
              exact he w0 ρ' a' w' hs'
            | exit id' => exact ⟨ρ', st', hs', he⟩
            | ret => exact ⟨ρ', st', hs', he⟩
            | _ => exact he.elim
          | cond c x y =>
            simp only [vcs] at h
            split at h
            · rename_i t hc
              have hev := hs.1.evv hc
              refine wp_cond_split hev (fun ht => ?_) (fun ht => ?_)
              · have h1 := ih' n (by omega) (.code x :: k) hno' st (h.1 ht)
                rw [SVX_code] at h1
                exact h1 w0 ρ a w hs
              · have h1 := ih' n (by omega) (.code y :: k) hno' st (h.2 ht)
                rw [SVX_code] at h1
                exact h1 w0 ρ a w hs
            · exact h.elim
          | region rid ops dr =>
            simp only [vcs] at h
            obtain ⟨hlook, hv⟩ := h
            cases dr with
            | false =>
              refine wp_region_list ?_
              have := ops_sound (P := P) (Q := Q) (all := ops.toList) (k := k) (w0 := w0) n (fun m hm st hv => ih' m (by omega) k hno' st hv) n (Nat.le_refl _) ops.toList st ρ a w hv hs
              simpa using this
            | true => exact region_sound hm (fun m hm st hv => ih' m (by omega) k hno' st hv) rfl (hlook rfl) hv hs
          | _ => simp only [vcs] at h

end
end Go.Sx
