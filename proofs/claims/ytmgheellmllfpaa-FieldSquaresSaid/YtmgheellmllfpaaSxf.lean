/-
  The machine's calls, and all operations together (op_sound). No conditions.
-/
import Derived.Test.YtmgheellmllfpaaSxe
namespace Go.Sx
section
variable {P : Program} {w0 : World} {ρ : Nat → Loc} {T : Nat → AV} {M : MemF} {N : Nat} {a : Act} {w : World} {id : Nat} {o : Oper}
  {K : Act → World → Prop} {Q : Exit → Act → World → Prop}

theorem append_nil_new {q : Nat} {news : List Value} {x y : Operand} {c : Call} {t : TypeId} {m : Mk} (h : SatS w0 ρ T M N a w) (hid : ∀ k, (M k).isSome = true → Out id k)
    (hop : o.op = .call c) (hcal : c.callee = .builtin .append) (hargs : c.args = #[x, y]) (htys : c.argTypes = #[t, t]) (hm : mkI P t = some m) (hx : ev T x = .o (.v (.slice none 0 0)))
    (hy : sliceCells M m.size (ev T y) = some (q, news)) (hpos : 0 < m.size) (hzl : m.zero.length = m.size) (hl : news.length = q * m.size) (hb : q * m.bytes ≤ 140737488355328) (h63 : q ≤ 9223372036854775807)
    (hK : Goes w0 ρ M id ⟨.o (.r id q), [(id, .row m.e m.size q news)], []⟩ fun y w' => K (a.put o.dst y) w') : o.wp P a w K Q := by
  obtain ⟨i, z, hu, hi, hz, hsi, hby, hzc⟩ := mkI_spec hm
  have hv := h.evv hx
  obtain ⟨hone, hyv⟩ := sliceCells_run h hy hl
  obtain ⟨v', w', hrun, hown', hfr, hblk⟩ := append_run (P := P) w w.heap.size (ty := o.type) hu hi hz hsi hby (by rw [← Array.length_toList, hzc]; exact hzl) hpos (World.ownsRow_nil w w.heap.size m.e m.size) hl hone hyv (by simp only [maxLen]; omega) (by simpa using hb) (Nat.le_refl _)
  simp only [Nat.zero_add, List.nil_append] at hown'
  refine row_step h hid (List.all_eq_true.2 hone) ?_ (hfr.mono (fun k hk => by simp [Value.ownBlock] at hk)) hown' hK
  simp [execOp, hop, resolve, hcal, hargs, htys, invoke, builtin, hv, hrun]

theorem args_ok (h : SatS w0 ρ T M N a w) : ∀ {xs : List Operand} {as : List Arg}, argsMatch M (xs.map (ev T)) as → ArgsOK w as (xs.map a.eval)
  | [], [], _ => trivial
  | x :: xs, b :: as, hm => by
    refine ⟨?_, args_ok h hm.2⟩
    have hm1 := hm.1
    cases b with
    | val y =>
      cases hx : ev T x with
      | o a0 =>
        cases a0 with
        | v x0 => rw [hx] at hm1; exact (h.evv hx).trans hm1
        | _ => rw [hx] at hm1; exact hm1.elim
      | t l => rw [hx] at hm1; exact hm1.elim
    | sl n size ys =>
      have hm2 : sliceCells M size (ev T x) = some (n, ys) ∧ ys.length = n * size := by
        revert hm1; cases ev T x with
        | o a0 => cases a0 <;> exact fun hm1 => hm1
        | t l => exact fun hm1 => hm1
      obtain ⟨hs, hl⟩ := hm2
      obtain ⟨hone, hv⟩ := sliceCells_run h hs hl
      rcases hv with ⟨ad, c, he, hle, hr⟩ | ⟨he, h0, hn⟩
      · exact ⟨some ad, c, he, hle, hl, by simp, hone, fun _ => ⟨ad, rfl, hr⟩⟩
      · subst h0; subst hn
        exact ⟨none, 0, he, Nat.le_refl _, by simp, fun _ => rfl, by simp, by simp⟩
    | mv e size n ys =>
      cases hx : ev T x with
      | o a0 =>
        cases a0 with
        | r k n0 =>
          rw [hx] at hm1
          have hv := h.eval x
          rw [hx] at hv
          obtain ⟨h1, _, h3⟩ := h.mem.ent k _ hm1
          refine ⟨?_, h3⟩
          rw [hv.2.1]
          exact ⟨h1.1, h1.2.imp (fun x => x) fun ⟨g, cap, cur, hv, hg, r⟩ => ⟨g, cap, cur, hv, Nat.zero_le _, r⟩⟩
        | _ => rw [hx] at hm1; exact hm1.elim
      | t l => rw [hx] at hm1; exact hm1.elim
  | [], _ :: _, hm => hm.elim
  | _ :: _, [], hm => hm.elim

/-- The block that an argument reads is that of an entry that it names. -/
theorem readBlk_ent (h : SatS w0 ρ T M N a w) {x : Operand} {b : Arg} (hm : argMatch M (ev T x) b) {g : Nat} (hg : readBlk b (a.eval x) = some g) :
    ∃ k e, ((∃ n, ev T x = .o (.r k n)) ∨ ∃ off len, ev T x = .o (.s k off len)) ∧ M k = some e ∧ e.blk (ρ k) = some g := by
  have hv := h.eval x
  cases b with
  | val y => simp [readBlk] at hg
  | mv e size n ys =>
    cases hx : ev T x with
    | o a0 =>
      cases a0 with
      | r k n0 =>
        rw [hx] at hm hv
        refine ⟨k, _, .inl ⟨n0, rfl⟩, hm, ?_⟩
        simp only [readBlk, hv.2.1] at hg
        rw [blk_row]; exact hg
      | _ => rw [hx] at hm; exact hm.elim
    | t l => rw [hx] at hm; exact hm.elim
  | sl n size ys =>
    have hm2 : sliceCells M size (ev T x) = some (n, ys) ∧ ys.length = n * size := by
      revert hm; cases ev T x with
      | o a0 => cases a0 <;> exact fun hm1 => hm1
      | t l => exact fun hm1 => hm1
    obtain ⟨hs, hl⟩ := hm2
    simp only [readBlk] at hg
    split at hg
    · cases hg
    · rename_i hne
      have hne' : ys ≠ [] := by intro e; subst e; simp at hne
      unfold sliceCells at hs
      split at hs
      · rename_i k off len hx
        rw [hx] at hv
        obtain ⟨_, o', cap, hv, hle, hor, hnil⟩ := hv
        split at hs
        · rename_i e hM
          split at hs
          · rename_i cs hcs
            simp only [Option.some.injEq, Prod.mk.injEq] at hs
            obtain ⟨rfl, rfl⟩ := hs
            have hlen : len ≠ 0 := by intro e; subst e; simp at hne'
            have ho := hor.resolve_left hlen
            subst ho
            rw [hv] at hg
            simp only [Value.ownBlock, addr_add_block, Option.some.injEq] at hg
            refine ⟨k, e, .inr ⟨off, len, hx⟩, hM, ?_⟩
            have hcne : cs ≠ [] := by intro e; subst e; simp at hne'
            cases e with
            | box cs' => rw [← hg]; rfl
            | row e2 sz n2 xs2 =>
              simp only [Ent.cells, Option.some.injEq] at hcs
              subst hcs
              obtain ⟨h1, h2, _⟩ := h.mem.ent k _ hM
              rcases h1.2 with ⟨hvv, h0⟩ | ⟨g2, cap2, cur, hvv, _⟩
              · subst h0
                have := h1.1
                exact absurd (List.eq_nil_of_length_eq_zero (by simpa using this)) hcne
              · rw [blk_row, hvv, ← hg, h2 _ _ _ hvv]; rfl
            | view fr xs2 =>
              simp only [Ent.cells, Option.some.injEq] at hcs
              subst hcs
              cases xs2 with
              | nil => exact absurd rfl hcne
              | cons x2 xs2 => simp [Ent.blk, hg]
            | dead => simp [Ent.cells] at hcs
          · cases hs
        · cases hs
      · rename_i k n0 hx
        rw [hx] at hv
        split at hs
        · rename_i e sz n2 xs2 hM
          refine ⟨k, _, .inl ⟨n0, hx⟩, hM, ?_⟩
          rw [blk_row, ← hv.2.1]; exact hg
        · cases hs
      · simp only [Option.some.injEq, Prod.mk.injEq] at hs
        exact absurd hs.2.symm hne'
      · cases hs

theorem movedBlk_ent (h : SatS w0 ρ T M N a w) {x : Operand} {b : Arg} (hm : argMatch M (ev T x) b) {g : Nat} (hg : movedBlk b (a.eval x) = some g) :
    ∃ k n0 e size n xs, ev T x = .o (.r k n0) ∧ b = .mv e size n xs ∧ M k = some (.row e size n xs) ∧ (ρ k).v.ownBlock = some g := by
  have hv := h.eval x
  cases b with
  | val y => simp [movedBlk] at hg
  | sl n size ys => simp [movedBlk] at hg
  | mv e size n ys =>
    cases hx : ev T x with
    | o a0 =>
      cases a0 with
      | r k n0 =>
        rw [hx] at hm hv
        refine ⟨k, n0, e, size, n, ys, rfl, rfl, hm, ?_⟩
        simp only [movedBlk, hv.2.1] at hg
        exact hg
      | _ => rw [hx] at hm; exact hm.elim
    | t l => rw [hx] at hm; exact hm.elim

theorem refs_cons_r (k n : Nat) (l : List AV) : refs (.o (.r k n) :: l) = k :: refs l := rfl
theorem refs_sub {x : AV} {l : List AV} {k : Nat} (h : k ∈ refs l) : k ∈ refs (x :: l) := by
  cases x with
  | o a0 => cases a0 <;> simp [refs, h]
  | t l' => exact h
theorem refs_nodup {x : AV} {l : List AV} (h : (refs (x :: l)).Nodup) : (refs l).Nodup := by
  cases x with
  | o a0 => cases a0 <;> first | exact h | exact (List.nodup_cons.1 h).2
  | t l' => exact h
theorem refs_mem {x : AV} {l : List AV} {k : Nat} (hx : (∃ n, x = .o (.r k n)) ∨ ∃ off len, x = .o (.s k off len)) (h : x ∈ l) : k ∈ refs l := by
  induction l with
  | nil => cases h
  | cons z l ih =>
    rcases List.mem_cons.1 h with rfl | h
    · rcases hx with ⟨n, rfl⟩ | ⟨off, len, rfl⟩ <;> simp [refs]
    · exact refs_sub (ih h)

theorem argsMatch_zip : ∀ {xs : List Operand} {as : List Arg}, argsMatch M (xs.map (ev T)) as → ∀ b y, (b, y) ∈ as.zip (xs.map a.eval) → ∃ x, x ∈ xs ∧ y = a.eval x ∧ argMatch M (ev T x) b
  | [], [], _, _, _, h => by simp at h
  | x :: xs, b :: as, hm, b', y', h => by
    simp only [List.map_cons, List.zip_cons_cons, List.mem_cons, Prod.mk.injEq] at h
    rcases h with ⟨rfl, rfl⟩ | h
    · exact ⟨x, by simp, rfl, hm.1⟩
    · obtain ⟨x', h1, h2, h3⟩ := argsMatch_zip hm.2 b' y' h
      exact ⟨x', by simp [h1], h2, h3⟩
  | [], _ :: _, hm, _, _, _ => hm.elim
  | _ :: _, [], hm, _, _, _ => hm.elim

theorem apart_ok (h : SatS w0 ρ T M N a w) : ∀ {xs : List Operand} {as : List Arg}, argsMatch M (xs.map (ev T)) as → (refs (xs.map (ev T))).Nodup → apartArgs as (xs.map a.eval)
  | [], [], _, _ => trivial
  | x :: xs, b :: as, hm, hnd => by
    have clash : ∀ {k k' e e'} {g : Nat}, M k = some e → e.fresh = true → M k' = some e' → k ≠ k' → e.blk (ρ k) = some g → e'.blk (ρ k') = some g → False := by
      intro k k' e e' g h1 ho h2 hne hb hb'
      rcases h.mem.apart k e k' e' h1 ho h2 hne with hn | hn
      · rw [hb] at hn; cases hn
      · exact hn (by rw [hb, hb'])
    refine ⟨?_, ?_, apart_ok h hm.2 (refs_nodup hnd)⟩
    · intro g hg b' y' hin hr
      obtain ⟨x', hx', rfl, hm'⟩ := argsMatch_zip hm.2 b' y' hin
      obtain ⟨k, n0, e, size, n, ys, hxk, rfl, hMk, hbk⟩ := movedBlk_ent h hm.1 hg
      obtain ⟨k', e', hxk', hMk', hbk'⟩ := readBlk_ent h hm' hr
      have hin' : k' ∈ refs (xs.map (ev T)) := refs_mem hxk' (List.mem_map.2 ⟨x', hx', rfl⟩)
      simp only [List.map_cons, hxk, refs_cons_r] at hnd
      have hne : k ≠ k' := fun e => (List.nodup_cons.1 hnd).1 (e ▸ hin')
      exact clash hMk rfl hMk' hne (by rw [blk_row]; exact hbk) hbk'
    · intro g hg b' y' hin hr
      obtain ⟨x', hx', rfl, hm'⟩ := argsMatch_zip hm.2 b' y' hin
      obtain ⟨k', n0, e, size, n, ys, hxk', rfl, hMk', hbk'⟩ := movedBlk_ent h hm' hr
      obtain ⟨k, e', hxk, hMk, hbk⟩ := readBlk_ent h hm.1 hg
      have hin' : k' ∈ refs (xs.map (ev T)) := refs_mem (.inl ⟨_, hxk'⟩) (List.mem_map.2 ⟨x', hx', rfl⟩)
      have hne : k' ≠ k := by
        intro e0; subst e0
        rcases hxk with ⟨n1, hxk⟩ | ⟨off, len, hxk⟩ <;> (simp only [List.map_cons, hxk, refs] at hnd; exact (List.nodup_cons.1 hnd).1 hin')
      exact clash hMk' rfl hMk hne (by rw [blk_row]; exact hbk') hbk
  | [], _ :: _, hm, _ => hm.elim
  | _ :: _, [], hm, _ => hm.elim

theorem apart_none : ∀ {xs : List Operand} {as : List Arg}, argsMatch M (xs.map (ev T)) as → movedE (xs.map (ev T)) as = [] → apartArgs as (xs.map a.eval) ∧ ∀ b, ¬ moved as (xs.map a.eval) b
  | [], [], _, _ => ⟨trivial, fun _ h => h⟩
  | x :: xs, b :: as, hm, h0 => by
    have hno : ∀ y, movedBlk b y = none := by
      intro y
      cases b with
      | mv e size n ys =>
        have hm1 := hm.1
        cases hx : ev T x with
        | o a0 =>
          cases a0 with
          | r k n0 => simp [movedE, hx] at h0
          | _ => rw [hx] at hm1; exact hm1.elim
        | t l => rw [hx] at hm1; exact hm1.elim
      | _ => rfl
    have h0' : movedE (xs.map (ev T)) as = [] := by
      simp only [List.map_cons] at h0
      unfold movedE at h0
      split at h0
      · cases h0
      · rename_i e1 e2; simp only [List.cons.injEq] at e1 e2; rw [e1.2, e2.2]; exact h0
      · rename_i hn; exact absurd rfl (hn _ _ _ _ rfl)
    obtain ⟨i1, i2⟩ := apart_none hm.2 h0'
    refine ⟨⟨fun g hg => absurd hg (by rw [hno]; simp), fun g _ b' y' hin hr => ?_, i1⟩, fun g hg => ?_⟩
    · have key : ∀ {xs' : List Operand} {as' : List Arg}, argsMatch M (xs'.map (ev T)) as' → (∀ b, ¬ moved as' (xs'.map a.eval) b) → ∀ b' y', (b', y') ∈ as'.zip (xs'.map a.eval) → ∀ g, movedBlk b' y' ≠ some g := by
        intro xs'
        induction xs' with
        | nil => intro as' _ _ b' y' hin; simp at hin
        | cons x' xs' ih =>
          intro as' hm' hn' b' y' hin g hg
          cases as' with
          | nil => simp at hin
          | cons c as' =>
            simp only [List.map_cons, List.zip_cons_cons, List.mem_cons, Prod.mk.injEq] at hin
            rcases hin with ⟨rfl, rfl⟩ | hin
            · exact hn' g (.inl hg)
            · exact ih hm'.2 (fun b hb => hn' b (.inr hb)) b' y' hin g hg
      exact key hm.2 i2 b' y' hin g hr
    · rcases hg with hg | hg
      · rw [hno] at hg; cases hg
      · exact i2 g hg
  | [], _ :: _, hm, _ => hm.elim
  | _ :: _, [], hm, _ => hm.elim

def newLoc (z : Value) : Loc := ⟨match z with | .slice (some g) _ _ => g | _ => default, z⟩

theorem ressE_get : ∀ {rs : List Res} {j k : Nat} {e : Ent}, (ressE j rs).get k = some e → j ≤ k ∧ ∃ r, rs[k - j]? = some r ∧ resE k r = [(k, e)]
  | [], j, k, e, h => by simp [ressE, Mem.get] at h
  | r :: rs, j, k, e, h => by
    have hrest : (ressE (j + 1) rs).get k = some e → j ≤ k ∧ ∃ r', (r :: rs)[k - j]? = some r' ∧ resE k r' = [(k, e)] := by
      intro h'
      obtain ⟨h1, r', h2, h3⟩ := ressE_get h'
      refine ⟨by omega, r', ?_, h3⟩
      have : k - j = (k - (j + 1)) + 1 := by omega
      rw [this]; simpa using h2
    cases r with
    | val x => exact hrest (by simpa [ressE, resE] using h)
    | row e' size n xs =>
      simp only [ressE, resE, List.cons_append, List.nil_append, Mem.get] at h
      split at h
      · rename_i hk; subst hk; simp only [Option.some.injEq] at h; exact ⟨Nat.le_refl _, .row e' size n xs, by simp, by rw [← h]; rfl⟩
      · exact hrest h
    | view n size xs =>
      simp only [ressE, resE, List.cons_append, List.nil_append, Mem.get] at h
      split at h
      · rename_i hk; subst hk; simp only [Option.some.injEq] at h; exact ⟨Nat.le_refl _, .view n size xs, by simp, by rw [← h]; rfl⟩
      · exact hrest h

theorem ressE_live : ∀ {rs : List Res} {j i : Nat} {r : Res}, rs[i]? = some r → (∀ x, r ≠ .val x) → ((ressE j rs).get (j + i)).isSome = true
  | [], _, _, _, h, _ => by simp at h
  | r0 :: rs, j, 0, r, h, hn => by
    simp at h
    subst h
    cases r0 with
    | val x => exact absurd rfl (hn x)
    | _ => simp [ressE, resE, Mem.get]
  | r0 :: rs, j, i + 1, r, h, hn => by
    have ih := ressE_live (j := j + 1) (i := i) (rs := rs) (by simpa using h) hn
    have e : j + 1 + i = j + (i + 1) := by omega
    rw [e] at ih
    cases r0 with
    | val x => simpa [ressE, resE] using ih
    | _ =>
      simp only [ressE, resE, List.cons_append, List.nil_append, Mem.get]
      split
      · rfl
      · exact ih

theorem ress_len {w' : World} {new : Nat → Prop} : ∀ {rs : List Res} {zs : List Value}, RessOK w' new rs zs → rs.length = zs.length
  | [], [], _ => rfl
  | _ :: _, _ :: _, h => by simp [ress_len h.2.1]
  | [], _ :: _, h => h.elim
  | _ :: _, [], h => h.elim
theorem ress_at {w' : World} {new : Nat → Prop} : ∀ {rs : List Res} {zs : List Value} {i : Nat} {r : Res} {z : Value}, RessOK w' new rs zs → rs[i]? = some r → zs[i]? = some z → ResOK w' new r z
  | _ :: _, _ :: _, 0, _, _, h, h1, h2 => by simp at h1 h2; subst h1 h2; exact h.1
  | _ :: _, _ :: _, i + 1, _, _, h, h1, h2 => ress_at h.2.1 (by simpa using h1) (by simpa using h2)
  | [], _, _, _, _, _, h1, _ => by simp at h1
  | _ :: _, [], _, _, _, _, _, h2 => by simp at h2
theorem ress_apart {w' : World} {new : Nat → Prop} : ∀ {rs : List Res} {zs : List Value} {i j : Nat} {r r' : Res} {z z' : Value} {b : Nat}, RessOK w' new rs zs → i < j → rs[i]? = some r → zs[i]? = some z → rs[j]? = some r' → zs[j]? = some z' →
    ResBlk r z = some b → ResBlk r' z' ≠ some b
  | _ :: rs, _ :: zs, 0, j + 1, r, r', z, z', b, h, _, h1, h2, h3, h4, h5 => by
    simp at h1 h2 h3 h4
    subst h1 h2
    refine h.2.2 b h5 r' z' ?_
    have : (rs.zip zs)[j]? = some (r', z') := by simp [List.getElem?_zip_eq_some, h3, h4]
    exact List.mem_of_getElem? this
  | _ :: _, _ :: _, i + 1, j + 1, _, _, _, _, _, h, hij, h1, h2, h3, h4, h5 => ress_apart (i := i) (j := j) h.2.1 (by omega) (by simpa using h1) (by simpa using h2) (by simpa using h3) (by simpa using h4) h5
  | [], _, _, _, _, _, _, _, _, _, _, h1, _, _, _, _ => by simp at h1
  | _ :: _, [], _, _, _, _, _, _, _, _, _, _, h2, _, _, _ => by simp at h2
  | _ :: _, _ :: _, _, 0, _, _, _, _, _, _, hij, _, _, _, _, _ => by omega

theorem movedE_get : ∀ {l : List AV} {as : List Arg} {k : Nat} {e : Ent}, (movedE l as).get k = some e → e = .dead
  | [], as, k, e, h => by cases as <;> simp [movedE, Mem.get] at h
  | x :: l, [], k, e, h => by cases x <;> simp [movedE, Mem.get] at h
  | x :: l, b :: as, k, e, h => by
    unfold movedE at h
    split at h
    · simp only [Mem.get] at h
      split at h
      · simp only [Option.some.injEq] at h; exact h.symm
      · rename_i e1 e2 _; simp only [List.cons.injEq] at e1 e2; rw [← e1.2, ← e2.2] at h; exact movedE_get h
    · rename_i e1 e2; simp only [List.cons.injEq] at e1 e2; rw [← e1.2, ← e2.2] at h; exact movedE_get h
    · simp [Mem.get] at h

theorem moved_dead (h : SatS w0 ρ T M N a w) : ∀ {xs : List Operand} {as : List Arg} {g : Nat}, argsMatch M (xs.map (ev T)) as → moved as (xs.map a.eval) g →
    ∃ k e size n ys, M k = some (.row e size n ys) ∧ (ρ k).v.ownBlock = some g ∧ (movedE (xs.map (ev T)) as).get k = some .dead
  | [], [], _, _, hg => hg.elim
  | x :: xs, b :: as, g, hm, hg => by
    rcases hg with hg | hg
    · obtain ⟨k, n0, e, size, n, ys, hxk, rfl, hMk, hbk⟩ := movedBlk_ent h hm.1 hg
      exact ⟨k, e, size, n, ys, hMk, hbk, by simp [movedE, hxk, Mem.get]⟩
    · obtain ⟨k, e, size, n, ys, h1, h2, h3⟩ := moved_dead h hm.2 hg
      refine ⟨k, e, size, n, ys, h1, h2, ?_⟩
      simp only [List.map_cons]
      unfold movedE
      split
      · rename_i e1 e2; simp only [List.cons.injEq] at e1 e2
        simp only [Mem.get]
        split
        · rfl
        · rw [← e1.2, ← e2.2]; exact h3
      · rename_i e1 e2; simp only [List.cons.injEq] at e1 e2; rw [← e1.2, ← e2.2]; exact h3
      · rename_i hn; exact absurd rfl (hn _ _ _ _ rfl)
  | [], _ :: _, _, hm, _ => hm.elim
  | _ :: _, [], _, hm, _ => hm.elim

theorem den_newLoc {w' : World} {new : Nat → Prop} {r : Res} {z : Value} {k : Nat} {ρ' : Nat → Loc} {M' : MemF} (h : ResOK w' new r z) (hρ : ρ' k = newLoc z) (hl : (∀ x, r ≠ .val x) → (M' k).isSome = true) : Den0 ρ' M' (resA k r) z := by
  cases r with
  | val x => exact h
  | row e size n xs =>
    refine ⟨hl (by simp), den_row h.1 (by rw [hρ]; rfl) ?_⟩
    intro g m c hz
    rw [hρ, hz]; rfl
  | view n size xs =>
    obtain ⟨⟨o', cap, rfl, hle, hlen, hnil, hone, hr⟩, hb⟩ := h
    refine ⟨hl (by simp), o', cap, rfl, hle, ?_, hnil⟩
    by_cases h0 : n = 0
    · exact .inl h0
    · refine .inr ?_
      rw [hρ]
      cases o' with
      | none => have := hnil rfl; omega
      | some ad => simp [newLoc, Addr.add]

theorem denL_ress {w' : World} {new : Nat → Prop} {ρ' : Nat → Loc} {M' : MemF} : ∀ {rs : List Res} {zs : List Value} {j : Nat}, RessOK w' new rs zs → (∀ i z, zs[i]? = some z → ρ' (j + i) = newLoc z) →
    (∀ i r, rs[i]? = some r → (∀ x, r ≠ .val x) → (M' (j + i)).isSome = true) → DenL ρ' M' (ressA j rs) zs
  | [], [], _, _, _, _ => trivial
  | r :: rs, z :: zs, j, h, hρ, hl => by
    refine ⟨den_newLoc h.1 (by simpa using hρ 0 z rfl) (by simpa using hl 0 r rfl), denL_ress h.2.1 (fun i z' hz => ?_) (fun i r' hr => ?_)⟩
    · have := hρ (i + 1) z' (by simpa using hz)
      rw [← this]; congr 1; omega
    · have := hl (i + 1) r' (by simpa using hr)
      have e : j + 1 + i = j + (i + 1) := by omega
      rw [e]; exact this
  | [], _ :: _, _, h, _, _ => h.elim
  | _ :: _, [], _, h, _, _ => h.elim

theorem ressA_len : ∀ {rs : List Res} {j : Nat}, (ressA j rs).length = rs.length
  | [], _ => rfl
  | _ :: rs, j => by simp [ressA, ressA_len (rs := rs) (j := j + 1)]

theorem den_pack {ρ' : Nat → Loc} {M' : MemF} : ∀ {l : List A0} {zs : List Value}, DenL ρ' M' l zs → Den ρ' M' (packA l) (pack zs)
  | [], [], _ => ⟨[], rfl, trivial⟩
  | [_], [_], h => h.1
  | _ :: _ :: _, _ :: _ :: _, h => ⟨_, rfl, h⟩
  | [], _ :: _, h => h.elim
  | _ :: _, [], h => h.elim
  | [_], _ :: _ :: _, h => h.2.elim
  | _ :: _ :: _, [_], h => h.2.elim

theorem vals_eq {w : World} : ∀ {xs ys : List Value}, ArgsOK w (xs.map Arg.val) ys → ys = xs
  | [], [], _ => rfl
  | x :: xs, y :: ys, h => by
    have h1 : y = x := h.1
    rw [h1, vals_eq h.2]
  | [], _ :: _, h => h.elim
  | _ :: _, [], h => h.elim
theorem movedE_vals : ∀ (l : List AV) (xs : List Value), movedE l (xs.map Arg.val) = []
  | [], xs => by cases xs <;> rfl
  | x :: l, [] => by cases x with
    | o a0 => cases a0 <;> rfl
    | t l' => rfl
  | x :: l, y :: xs => by
    have ih := movedE_vals l xs
    cases x with
    | o a0 => cases a0 <;> exact ih
    | t l' => exact ih
theorem ressE_vals : ∀ (j : Nat) (zs : List Value), ressE j (zs.map Res.val) = []
  | _, [] => rfl
  | j, _ :: zs => by simp [ressE, resE, ressE_vals (j + 1) zs]
theorem denL_vals {ρ' : Nat → Loc} {M' : MemF} : ∀ (j : Nat) (zs : List Value), DenL ρ' M' (ressA j (zs.map Res.val)) zs
  | _, [] => trivial
  | j, _ :: zs => ⟨rfl, denL_vals (j + 1) zs⟩

theorem call_op {c : Go.Call} {f : Nat} {u : Upd} (h : SatS w0 ρ T M N a w) (hid : ∀ k, (M k).isSome = true → Out id k) (hop : o.op = .call c) (hcal : c.callee = .value (.func f))
    (hok : callOK P M id f (c.args.toList.map (ev T)) u) (hK : Goes w0 ρ M id u fun y w' => K (a.put o.dst y) w') : o.wp P a w K Q := by
  obtain ⟨as, rs, hc12, hm, hle4, hap, rfl⟩ := hok
  have hargs := args_ok h hm
  rcases hc12 with ⟨hcallable, hcon⟩ | ⟨xs, zs, rfl, rfl, hrun⟩
  case inr =>
    have hxs : c.args.toList.map a.eval = xs := vals_eq hargs
    have hmv : movedE (c.args.toList.map (ev T)) (xs.map Arg.val) = [] := movedE_vals _ _
    have hcr : ressE id (zs.map Res.val) = [] := ressE_vals _ _
    rw [hmv, hcr] at hK
    refine pure_step (r := packA (ressA id (zs.map Res.val))) h (y := pack zs) ?_ (den_pack (denL_vals _ _)) hK
    have he : a.eval (.func f) = .func (.func f) #[] #[] := rfl
    have hmap : xs.toArray = c.args.map a.eval := by rw [← hxs, ← Array.toList_map, Array.toArray_toList]
    have hc := hrun w
    rw [hmap] at hc
    simp [execOp, hop, resolve, hcal, he, Deferred.ofValue, invoke, hc]
  have hapart : apartArgs as (c.args.toList.map a.eval) ∧ (movedE (c.args.toList.map (ev T)) as = [] → ∀ b, ¬ moved as (c.args.toList.map a.eval) b) := by
    rcases hap with h0 | h0
    · exact ⟨(apart_none hm h0).1, fun _ => (apart_none hm h0).2⟩
    · exact ⟨apart_ok h hm h0, fun h0 => (apart_none hm h0).2⟩
  have hcalls := hcon w (c.args.toList.map a.eval) hargs hapart.1
  have hsz := h.below.size
  unfold Oper.wp
  have hr : (execOp a.eval o).run P w = .ok (.enter f (c.args.toList.map a.eval).toArray) w := by
    have he : a.eval (.func f) = .func (.func f) #[] #[] := rfl
    have hc := hcallable (c.args.toList.map a.eval).toArray w
    have hmap : (c.args.toList.map a.eval).toArray = c.args.map a.eval := by rw [← Array.toList_map, Array.toArray_toList]
    rw [hmap] at hc ⊢
    simp [execOp, hop, resolve, hcal, he, Deferred.ofValue, invoke, hc]
  rw [hr, Oper.upon_enter]
  refine hcalls.mono ?_
  rintro e w' ⟨zs, rfl, hfr, hres⟩
  have hlen := ress_len hres
  have hmv : ∀ b, moved as (c.args.toList.map a.eval) b → w0.heap.size ≤ b := by
    intro b hb
    obtain ⟨k, e, size, n, ys, hMk, hbk, _⟩ := moved_dead h hm hb
    obtain ⟨h1, _⟩ := h.mem.ent k _ hMk
    exact (h1.lt b hbk).1
  obtain ⟨ρ', hloc, hout⟩ : ∃ ρ' : Nat → Loc, (∀ k z, id ≤ k → zs[k - id]? = some z → ρ' k = newLoc z) ∧ (∀ k, Out id k → ρ' k = ρ k) := by
    refine ⟨fun k => if id ≤ k then (match zs[k - id]? with | some z => newLoc z | none => ρ k) else ρ k, fun k z h1 h2 => by simp [h1, h2], fun k hk => ?_⟩
    by_cases h1 : id ≤ k
    · have : zs[k - id]? = none := by
        rw [List.getElem?_eq_none_iff]
        unfold Out at hk
        omega
      simp [h1, this]
    · simp [h1]
  refine hK (pack zs) w' ρ' hout ?_ (hfr.below h.below hmv) ?_
  · have hkey : ∀ k e, applyM M ⟨packA (ressA id rs), ressE id rs, movedE (c.args.toList.map (ev T)) as⟩ k = some e →
        (id ≤ k ∧ ∃ r z, rs[k - id]? = some r ∧ zs[k - id]? = some z ∧ resE k r = [(k, e)]) ∨ e = .dead ∨ (Out id k ∧ M k = some e ∧ (movedE (c.args.toList.map (ev T)) as).get k = none) := by
      intro k e hk
      simp only [applyM] at hk
      cases hcr : (ressE id rs).get k with
      | some e' =>
        simp only [hcr, Option.some.injEq] at hk
        subst hk
        obtain ⟨h1, r, h2, h3⟩ := ressE_get hcr
        have hlt : k - id < zs.length := by rw [← hlen]; exact (List.getElem?_eq_some_iff.1 h2).1
        exact .inl ⟨h1, r, zs[k - id], h2, List.getElem?_eq_getElem hlt, h3⟩
      | none =>
        simp only [hcr] at hk
        cases hMk : M k with
        | none => simp [hMk] at hk
        | some e0 =>
          cases hwr : (movedE (c.args.toList.map (ev T)) as).get k with
          | some e1 =>
            simp only [hMk, hwr, Option.some.injEq] at hk
            exact .inr (.inl (by rw [← hk]; exact movedE_get hwr))
          | none =>
            simp only [hMk, hwr, Option.some.injEq] at hk
            exact .inr (.inr ⟨hid k (by simp [hMk]), by rw [hk], rfl⟩)
    have hold : ∀ k e b, M k = some e → (movedE (c.args.toList.map (ev T)) as).get k = none → e.blk (ρ k) = some b → ¬ moved as (c.args.toList.map a.eval) b := by
      intro k e b hMk hno hb hmb
      obtain ⟨k', e', size, n, ys, hMk', hbk', hd⟩ := moved_dead h hm hmb
      have hne : k' ≠ k := by intro e0; subst e0; rw [hd] at hno; cases hno
      rcases h.mem.apart k' _ k e hMk' rfl hMk hne with hn | hn
      · rw [blk_row, hbk'] at hn; cases hn
      · exact hn (by rw [blk_row, hbk', hb])
    have hblkres : ∀ k r z e, ResOK w' (fun b => w.heap.size ≤ b ∨ moved as (c.args.toList.map a.eval) b) r z → resE k r = [(k, e)] → e.blk (newLoc z) = ResBlk r z ∧ (∀ b, ResBlk r z = some b → w.heap.size ≤ b ∨ moved as (c.args.toList.map a.eval) b) := by
      intro k r z e hro hre
      cases r with
      | val x => simp [resE] at hre
      | row e' size n xs =>
        simp only [resE, List.cons.injEq, Prod.mk.injEq, true_and, and_true] at hre
        subst hre
        exact ⟨rfl, fun b hb => hro.2.2 b hb⟩
      | view n size xs =>
        simp only [resE, List.cons.injEq, Prod.mk.injEq, true_and, and_true] at hre
        subst hre
        obtain ⟨⟨o', cap, rfl, hle, hlen', hnil, hone, hrd⟩, hb⟩ := hro
        refine ⟨?_, fun b hb' => ?_⟩
        · simp only [Ent.blk, ResBlk]
          split
          · rfl
          · rename_i hne
            have : xs ≠ [] := by intro e0; subst e0; simp at hne
            obtain ⟨ad, rfl, _⟩ := hrd this
            simp [newLoc, Value.ownBlock]
        · simp only [ResBlk] at hb'
          split at hb'
          · cases hb'
          · rename_i hne
            exact hb b (by simpa using hne) hb'
    constructor
    · intro k e hk
      rcases hkey k e hk with ⟨h1, r, z, h2, h3, h4⟩ | rfl | ⟨hlt, hMk, hno⟩
      · try simp only []
        rw [hloc k z h1 h3]
        have hro := ress_at hres h2 h3
        cases r with
        | val x => simp [resE] at h4
        | row e' size n xs =>
          simp only [resE, List.cons.injEq, Prod.mk.injEq, true_and, and_true] at h4
          subst h4
          obtain ⟨hown, hone, hnew⟩ := hro
          refine ⟨⟨hown.1, hown.2.imp (fun x => x) fun ⟨g, cap, cur, hv, _, rest⟩ => ⟨g, cap, cur, hv, ?_, rest⟩⟩, fun g m c hv => by simp only [newLoc] at hv ⊢; subst hv; rfl, hone⟩
          rcases hnew g (by rw [hv]; rfl) with hg | hg
          · omega
          · exact hmv g hg
        | view n size xs =>
          simp only [resE, List.cons.injEq, Prod.mk.injEq, true_and, and_true] at h4
          subst h4
          obtain ⟨⟨o', cap, rfl, hle, hlen', hnil, hone, hrd⟩, hb⟩ := hro
          refine ⟨fun j v hj => ?_, hone, fun _ hne => ?_⟩
          · have hx : xs ≠ [] := by intro e0; subst e0; simp at hj
            obtain ⟨ad, rfl, hrd2⟩ := hrd hx
            exact hrd2 j v hj
          · have hx : xs ≠ [] := by intro e0; subst e0; simp at hne
            obtain ⟨ad, rfl, hrd2⟩ := hrd hx
            rcases hb ad.block hne rfl with hg | hg
            · show w0.heap.size ≤ ad.block; omega
            · exact hmv _ hg
      · trivial
      · rw [hout k hlt]
        exact (h.mem.ent k e hMk).frame hfr (fun b hb => hold k e b hMk hno hb)
    · intro k e k' e' hk ho hk' hne
      rcases hkey k e hk with ⟨h1, r, z, h2, h3, h4⟩ | rfl | ⟨hlt, hMk, hno⟩
      · have hb1 := hblkres k r z e (ress_at hres h2 h3) h4
        try simp only []
        rw [hloc k z h1 h3]
        rcases hkey k' e' hk' with ⟨h1', r', z', h2', h3', h4'⟩ | rfl | ⟨hlt', hMk', hno'⟩
        · rw [hloc k' z' h1' h3']
          have hb2 := hblkres k' r' z' e' (ress_at hres h2' h3') h4'
          rw [hb1.1, hb2.1]
          cases hbb : ResBlk r z with
          | none => exact .inl rfl
          | some b =>
            refine .inr fun hc => ?_
            rcases Nat.lt_or_gt_of_ne (show k - id ≠ k' - id by omega) with hlt | hlt
            · exact ress_apart hres hlt h2 h3 h2' h3' hbb hc.symm
            · exact ress_apart hres hlt h2' h3' h2 h3 hc.symm hbb
        · cases hbb : e.blk (newLoc z) with
          | none => exact .inl rfl
          | some b => exact .inr (by simp [blk_dead])
        · rw [hout k' hlt']
          rw [hb1.1]
          cases hbb : ResBlk r z with
          | none => exact .inl rfl
          | some b =>
            refine .inr fun hc => ?_
            rcases hb1.2 b hbb with hg | hg
            · have := (h.mem.ent k' e' hMk').lt hc.symm
              omega
            · exact hold k' e' b hMk' hno' hc.symm hg
      · simp [Ent.fresh] at ho
      · rw [hout k hlt]
        rcases hkey k' e' hk' with ⟨h1', r', z', h2', h3', h4'⟩ | rfl | ⟨hlt', hMk', hno'⟩
        · rw [hloc k' z' h1' h3']
          have hb2 := hblkres k' r' z' e' (ress_at hres h2' h3') h4'
          rw [hb2.1]
          cases hbb : e.blk (ρ k) with
          | none => exact .inl rfl
          | some b =>
            refine .inr fun hc => ?_
            rcases hb2.2 b hc.symm with hg | hg
            · have := (h.mem.ent k e hMk).lt hbb
              omega
            · exact hold k e b hMk hno hbb hg
        · cases hbb : e.blk (ρ k) with
          | none => exact .inl rfl
          | some b => exact .inr (by simp [blk_dead])
        · rw [hout k' hlt']
          exact h.mem.apart k e k' e' hMk ho hMk' hne
  · refine den_pack (denL_ress hres (fun i z hz => hloc (id + i) z (by omega) (by simpa using hz)) (fun i r hr hn => ?_))
    have := ressE_live (j := id) hr hn
    unfold applyM
    cases hg : (ressE id rs).get (id + i) with
    | some e => rfl
    | none => rw [hg] at this; cases this

end
end Go.Sx
