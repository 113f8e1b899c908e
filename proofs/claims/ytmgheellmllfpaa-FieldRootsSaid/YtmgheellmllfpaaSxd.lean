/-
  The machine's operations, one by one, but calls of functions. No conditions.
-/
import Derived.Test.YtmgheellmllfpaaSxc
namespace Go.Sx
section
variable {P : Program} {w0 : World} {ρ : Nat → Loc} {T : Nat → AV} {M : MemF} {N : Nat} {a : Act} {w : World} {id : Nat} {o : Oper}
  {K : Act → World → Prop} {Q : Exit → Act → World → Prop}

theorem tsz_info {t : TypeId} {n : Nat} (h : tsz P t = some n) : ∃ i, P.info? t = some i ∧ i.size = n := by
  unfold tsz at h
  cases hi : P.info? t with
  | none => simp [hi] at h
  | some i => simp [hi] at h; exact ⟨i, rfl, h⟩

theorem run_sizeOf' {t : TypeId} {n : Nat} (h : tsz P t = some n) (w : World) : (sizeOf t).run P w = .ok n w := by
  obtain ⟨i, hi, hn⟩ := tsz_info h
  simp [sizeOf, typeInfo, hi, hn]

theorem run_isAgg' {t : TypeId} {g : Bool} (h : aggT P t = some g) (w : World) : (isAgg t).run P w = .ok g w := by
  unfold aggT at h
  cases hu : P.underlying t with
  | none => simp [hu] at h
  | some d => simp [hu] at h; subst h; cases d <;> simp [isAgg, run_underlying hu, aggD]

theorem load_op {ty : TypeId} {x : Operand} {k off : Nat} {c : Prop} {u : Upd} (h : SatS w0 ρ T M N a w) (hop : o.op = .load ty x) (hx : ev T x = .o (.p k off))
    (he : loadEff P M ty k off = .ok c u) (hc : c) (hK : Goes w0 ρ M id u fun y w' => K (a.put o.dst y) w') : o.wp P a w K Q := by
  unfold loadEff at he
  split at he
  · rename_i e sz g hM hsz hg
    have hv := h.eval x
    rw [hx] at hv
    obtain ⟨_, hv⟩ := hv
    have hs := h.mem.ent k e hM
    split at he
    · rename_i cs hcs
      have hone := hs.one hcs
      cases g with
      | true =>
        simp only [Eff.ok.injEq] at he
        obtain ⟨rfl, rfl⟩ := he
        obtain ⟨hf, hp⟩ := hc
        have hr := hs.reads hcs (by intro e0; subst e0; simp at hf; omega)
        have hlen : ((cs.drop off).take sz).length = sz := by simp; omega
        have hl := run_loadCells_list (P := P) w (((ρ k).a).add off) ((cs.drop off).take sz) (fun j v hj => by
          rw [addr_add_add]
          refine hr (off + j) v ?_
          rw [List.getElem?_take] at hj
          split at hj
          · rwa [List.getElem?_drop] at hj
          · cases hj)
        rw [hlen] at hl
        refine pure_step h (y := .agg ((cs.drop off).take sz).toArray) (r := .o (.v (.agg ((cs.drop off).take sz).toArray))) ?_ (by rfl) hK
        simp [execOp, hop, hv, Instr.loadAt, Instr.sureAddr, loadVar, run_isAgg' hg, run_sizeOf' hsz, hl]
      | false =>
        simp only [Eff.ok.injEq] at he
        obtain ⟨rfl, rfl⟩ := he
        have hr := hs.reads hcs (by intro e0; subst e0; simp at hc)
        have hcell := hr off (cs.getD off undef) (by simp [List.getD, List.getElem?_eq_getElem hc])
        refine pure_step h (y := cs.getD off undef) (r := .o (.v (cs.getD off undef))) ?_ (by rfl) hK
        simp only [execOp, hop, hv, Instr.loadAt, Instr.sureAddr, loadVar, Sem.run_bind, Sem.run_pure, Result.andThen_ok, run_isAgg' hg]
        simp [hcell]
    · cases he
  · cases he

theorem store_op {ty : TypeId} {x y : Operand} {k off : Nat} {z : Value} {c : Prop} {u : Upd} (h : SatS w0 ρ T M N a w) (hop : o.op = .store ty x y) (hx : ev T x = .o (.p k off)) (hy : ev T y = .o (.v z))
    (he : storeEff P M ty k off z = .ok c u) (hc : c) (hK : Goes w0 ρ M id u fun y w' => K (a.put o.dst y) w') : o.wp P a w K Q := by
  have hv := h.eval x
  rw [hx] at hv
  obtain ⟨_, hv⟩ := hv
  have hz := h.evv hy
  have main : ∀ (e : Ent) (cs : List Value) (sz : Nat), M k = some e → e.own = true → e.cells = some cs → tsz P ty = some sz → off + sz ≤ cs.length → z.cells.toList.length = sz → z.cells.toList.all Value.oneCell' = true →
      u = ⟨.o .any, [], [(k, e.put (cs.take off ++ z.cells.toList ++ cs.drop (off + sz)))]⟩ → o.wp P a w K Q := by
    intro e cs sz hM ho hcs hsz hf hl h1 hu
    subst hu
    have hs := h.mem.ent k e hM
    by_cases hne : cs = []
    · subst hne
      simp at hf
      obtain ⟨rfl, rfl⟩ := hf
      have hz0 : z.cells.toList = [] := List.eq_nil_of_length_eq_zero hl
      unfold Oper.wp
      have hrun : (execOp a.eval o).run P w = .ok .skip w := by
        have : z.cells.size = 0 := by simpa using hl
        simp [execOp, hop, hv, hz, Instr.storeAt, Instr.sureAddr, storeVar, run_sizeOf' hsz, this, hz0, storeCells]
      rw [hrun, Oper.upon_skip]
      have hself : e.put [] = e := by cases e <;> simp_all [Ent.put, Ent.cells]
      have happ : applyM M ⟨.o .any, [], [(k, e.put (List.take 0 ([] : List Value) ++ z.cells.toList ++ List.drop (0 + 0) []))]⟩ = M := by
        funext j
        simp only [applyM, Mem.get, hz0, List.take_nil, List.drop_nil, List.append_nil, hself]
        by_cases hj : j = k
        · subst hj; simp [hM]
        · cases hMj : M j <;> simp [hj]
      refine hK _ w ρ (fun _ _ => rfl) ?_ h.below trivial
      rw [happ]; exact h.mem
    · obtain ⟨b, t', cur, ha, hb, hh, _⟩ := hs.own_at ho hcs hne
      have hone : ∀ v ∈ z.cells.toList, v.oneCell' = true := List.all_eq_true.1 h1
      have hput := hs.put ho hcs hne (off := off) (zs := z.cells.toList) (by omega) hone ha hh
      have hcl : cs.length ≤ cur.size := by
        rename_i ht
        have := congrArg List.length ht
        simp at this
        omega
      have hst := run_storeCells_at P b off t' z.cells.toList 0 cur w hh (by omega) hone
      unfold Oper.wp
      have hrun : (execOp a.eval o).run P w = .ok .skip (w.setRow b (cur.toList.take off ++ z.cells.toList ++ cur.toList.drop (off + z.cells.toList.length)).toArray) := by
        have : z.cells.size = sz := by simpa using hl
        simp only [Nat.add_zero] at hst
        simp [execOp, hop, hv, hz, Instr.storeAt, Instr.sureAddr, storeVar, run_sizeOf' hsz, this, ha, Addr.add_lit, hst]
      rw [hrun, Oper.upon_skip]
      have hfr := Fr.setRow w b (cur.toList.take off ++ z.cells.toList ++ cur.toList.drop (off + z.cells.toList.length)).toArray
      refine hK _ _ ρ (fun _ _ => rfl) ?_ (hfr.below h.below (fun j hj => by subst hj; exact hs.ge ho hb)) trivial
      rw [hl] at hput hfr ⊢
      exact h.mem.write hfr hM ho (fun j hj => by subst hj; exact hb) hput (Ent.put_blk _ _ _ ho) _
  unfold storeEff at he
  split at he
  · rename_i cs sz hM hsz
    simp only [Eff.ok.injEq] at he
    obtain ⟨rfl, rfl⟩ := he
    exact main _ cs sz hM rfl rfl hsz hc.1 hc.2.1 hc.2.2 rfl
  · rename_i e s n cs sz hM hsz
    simp only [Eff.ok.injEq] at he
    obtain ⟨rfl, rfl⟩ := he
    exact main _ cs sz hM rfl rfl hsz hc.1 hc.2.1 hc.2.2 rfl
  · cases he

theorem arrI_spec {t : TypeId} {n s : Nat} (h : arrI P t = some (n, s)) : ∃ e, P.underlying t = some (.array n e) ∧ tsz P e = some s := by
  unfold arrI at h
  cases hu : P.underlying t with
  | none => simp [hu] at h
  | some d =>
    rw [hu] at h
    simp only [Option.bind_some] at h
    unfold arrD at h
    split at h
    · rename_i n' e
      cases hs : tsz P e with
      | none => simp [hs] at h
      | some s' => simp [hs] at h; exact ⟨e, by rw [h.1], by rw [hs, h.2]⟩
    · cases h
theorem slI_spec {t : TypeId} {s : Nat} (h : slI P t = some s) : ∃ e, P.underlying t = some (.slice e) ∧ tsz P e = some s := by
  unfold slI at h
  cases hu : P.underlying t with
  | none => simp [hu] at h
  | some d =>
    rw [hu] at h
    simp only [Option.bind_some] at h
    unfold slD at h
    split at h
    · exact ⟨_, rfl, h⟩
    · cases h

theorem indexAddr_op {ty : TypeId} {x i : Operand} {c : Prop} {u : Upd} (h : SatS w0 ρ T M N a w) (hop : o.op = .indexAddr ty x i)
    (he : opEff P T M id (.indexAddr ty x i) = .ok c u) (hc : c) (hK : Goes w0 ρ M id u fun y w' => K (a.put o.dst y) w') : o.wp P a w K Q := by
  simp only [opEff] at he
  split at he
  · rename_i k off ki j hx hi
    have hv := h.eval x
    rw [hx] at hv
    obtain ⟨hl, hv⟩ := hv
    have hj := h.evv hi
    split at he
    · rename_i n s harr
      obtain ⟨e, hu, hs⟩ := arrI_spec harr
      simp only [Eff.ok.injEq] at he
      obtain ⟨rfl, rfl⟩ := he
      refine pure_step (r := .o (.p k (off + j.toNat * s))) h (y := .pointer (some ((ρ k).a.add (off + j.toNat * s)))) ?_ ⟨hl, rfl⟩ hK
      simp [execOp, hop, hv, hj, Instr.indexAt, asIntOf, run_underlying hu, Instr.sureAddr, hc, run_sizeOf' hs, addr_add_add]
    · cases he
  · rename_i k off len ki j hx hi
    have hv := h.eval x
    rw [hx] at hv
    obtain ⟨hl, o', cap, hv, hle, hor, _⟩ := hv
    have hj := h.evv hi
    split at he
    · rename_i s hsl
      obtain ⟨e, hu, hs⟩ := slI_spec hsl
      simp only [Eff.ok.injEq] at he
      obtain ⟨rfl, rfl⟩ := he
      have hpos : len ≠ 0 := by omega
      have ho' := hor.resolve_left hpos
      subst ho'
      refine pure_step (r := .o (.p k (off + j.toNat * s))) h (y := .pointer (some ((ρ k).a.add (off + j.toNat * s)))) ?_ ⟨hl, rfl⟩ hK
      simp [execOp, hop, hv, hj, Instr.indexAt, asIntOf, run_underlying hu, hc, run_sizeOf' hs, addr_add_add]
    · cases he
  · rename_i k n ki j hx hi
    have hv := h.eval x
    rw [hx] at hv
    obtain ⟨hl, _, o', cap, hv, hle, hor, _⟩ := hv
    have hj := h.evv hi
    split at he
    · rename_i s hsl
      obtain ⟨e, hu, hs⟩ := slI_spec hsl
      simp only [Eff.ok.injEq] at he
      obtain ⟨rfl, rfl⟩ := he
      have hpos : n ≠ 0 := by omega
      have ho' := hor.resolve_left hpos
      subst ho'
      refine pure_step (r := .o (.p k (j.toNat * s))) h (y := .pointer (some ((ρ k).a.add (j.toNat * s)))) ?_ ⟨hl, rfl⟩ hK
      simp [execOp, hop, hv, hj, Instr.indexAt, asIntOf, run_underlying hu, hc, run_sizeOf' hs]
    · cases he
  · cases he

theorem fieldAddr_op {ty : TypeId} {x : Operand} {f : Nat} {c : Prop} {u : Upd} (h : SatS w0 ρ T M N a w) (hop : o.op = .fieldAddr ty x f)
    (he : opEff P T M id (.fieldAddr ty x f) = .ok c u) (hc : c) (hK : Goes w0 ρ M id u fun y w' => K (a.put o.dst y) w') : o.wp P a w K Q := by
  simp only [opEff] at he
  split at he
  · rename_i k off d s hx hf
    have hv := h.eval x
    rw [hx] at hv
    obtain ⟨hl, hv⟩ := hv
    simp only [Eff.ok.injEq] at he
    obtain ⟨rfl, rfl⟩ := he
    unfold fldI at hf
    cases hu : P.underlying ty with
    | none => simp [hu] at hf
    | some td =>
      rw [hu] at hf
      simp only [Option.bind_some] at hf
      unfold fldD at hf
      split at hf
      · rename_i fs
        cases hfs : fs[f]? with
        | none => simp [hfs] at hf
        | some fl =>
          cases hs : tsz P fl.type with
          | none => simp [hfs, hs] at hf
          | some s' =>
            simp [hfs, hs] at hf
            obtain ⟨rfl, rfl⟩ := hf
            refine pure_step (r := .o (.p k (off + fl.offset))) h (y := .pointer (some ((ρ k).a.add (off + fl.offset)))) ?_ ⟨hl, rfl⟩ hK
            simp [execOp, hop, hv, Instr.fieldAt, run_underlying hu, hfs, Instr.sureAddr, fieldPlace, run_sizeOf' hs, hc, addr_add_add]
      · cases hf
  · cases he

theorem alloc_op {e : TypeId} {c : Prop} {u : Upd} (h : SatS w0 ρ T M N a w) (hid : ∀ k, (M k).isSome = true → Out id k) (hop : o.op = .alloc e)
    (he : opEff P T M id (.alloc e) = .ok c u) (hc : c) (hK : Goes w0 ρ M id u fun y w' => K (a.put o.dst y) w') : o.wp P a w K Q := by
  simp only [opEff] at he
  split at he
  · rename_i zs hz
    simp only [Eff.ok.injEq] at he
    obtain ⟨rfl, rfl⟩ := he
    unfold zcells at hz
    cases hi : P.info? e with
    | none => simp [hi] at hz
    | some i =>
      cases hzz : i.zero with
      | none => simp [hi, hzz] at hz
      | some z =>
        simp [hi, hzz] at hz
        subst hz
        refine box_step h hid (cs := z.cells.toList) (ty := e) hc ?_ hK
        simp [execOp, hop, Instr.alloc, zeroValue, typeInfo, hi, hzz, newVar, newRow]
  · cases he

theorem box_op {e : TypeId} {x : Operand} {c : Prop} {u : Upd} (h : SatS w0 ρ T M N a w) (hid : ∀ k, (M k).isSome = true → Out id k) (hop : o.op = .box e x)
    (he : opEff P T M id (.box e x) = .ok c u) (hc : c) (hK : Goes w0 ρ M id u fun y w' => K (a.put o.dst y) w') : o.wp P a w K Q := by
  simp only [opEff] at he
  split at he
  · rename_i y hx
    have hv := h.evv hx
    simp only [Eff.ok.injEq] at he
    obtain ⟨rfl, rfl⟩ := he
    refine box_step h hid (cs := y.cells.toList) (ty := e) hc ?_ hK
    simp [execOp, hop, Instr.box, hv, newVar, newRow]
  · cases he

theorem mkI_spec {t : TypeId} {m : Mk} (h : mkI P t = some m) : ∃ i z, P.underlying t = some (.slice m.e) ∧ P.info? m.e = some i ∧ i.zero = some z ∧ i.size = m.size ∧ i.bytes = m.bytes ∧ z.cells.toList = m.zero := by
  unfold mkI at h
  cases hu : P.underlying t with
  | none => simp [hu] at h
  | some d =>
    rw [hu] at h
    simp only [Option.bind_some] at h
    unfold mkD at h
    split at h
    · rename_i e
      cases hi : P.info? e with
      | none => simp [hi] at h
      | some i =>
        cases hz : i.zero with
        | none => simp [hi, hz] at h
        | some z =>
          simp [hi, hz] at h
          subst h
          exact ⟨i, z, rfl, hi, hz, rfl, rfl, rfl⟩
    · cases h

theorem plains_spec (h : SatS w0 ρ T M N a w) : ∀ {l : List (Nat × Operand)} {ps : List (Nat × Value)}, plains T l = some ps → l.map (fun (i, x) => (i, a.eval x)) = ps
  | [], ps, hp => by simp [plains] at hp; simp [hp]
  | (i, x) :: l, ps, hp => by
    simp only [plains] at hp
    split at hp
    · rename_i y ys hy hys
      simp at hp
      subst hp
      have hx : ev T x = .o (.v y) := by
        unfold plain at hy
        split at hy
        · rename_i z hz; simp at hy; rw [hz, hy]
        · cases hy
      simp [h.evv hx, plains_spec h hys]
    · cases hp

theorem slice_fits {n : Nat} (h : n ≤ 16777216) : n ≤ maxLen := by simp only [maxLen]; omega

theorem buildSlice_op {t : TypeId} {len : Nat} {parts : Array (Nat × Operand)} {c : Prop} {u : Upd} (h : SatS w0 ρ T M N a w) (hid : ∀ k, (M k).isSome = true → Out id k) (hop : o.op = .buildSlice t len parts)
    (he : opEff P T M id (.buildSlice t len parts) = .ok c u) (hc : c) (hK : Goes w0 ρ M id u fun y w' => K (a.put o.dst y) w') : o.wp P a w K Q := by
  simp only [opEff] at he
  split at he
  · rename_i m ps hm hps
    split at he
    · rename_i cs hcs
      simp only [Eff.ok.injEq] at he
      obtain ⟨rfl, rfl⟩ := he
      obtain ⟨hl, h1, hb, hb', hzl⟩ := hc
      obtain ⟨i, z, hu, hi, hz, hsz, _, hzc⟩ := mkI_spec hm
      have hpp := plains_spec h hps
      have hown := World.ownsRow_lit (base := w.heap.size) (e := m.e) (size := m.size) w cs len (Nat.le_refl _) (slice_fits hb') (by simpa using hl)
      refine row_step h hid h1 ?_ (Fr.alloc w _ _) hown hK
      have hpa : (parts.map fun (i, x) => (i, a.eval x)).toList = ps := by simpa using hpp
      have hlim : ¬ (2 ^ 24 < len * m.size) := by omega
      unfold bsCells at hcs
      rw [← hzc] at hcs
      simp only [Array.toArray_toList] at hcs
      have hrz : ∀ f : Nat → Value, (Array.range 0).map f = #[] := fun f => by simp
      by_cases h0 : len * m.size = 0
      · rw [h0, hrz] at hcs
        simp only [execOp, hop, Instr.buildSlice, sizeOf, typeInfo, newRow, Sem.run_bind, Sem.run_ite, Sem.run_pure, run_program, run_newObj, Result.andThen_ok, run_underlying hu, hi, hsz, h0, hpa, hrz, hcs]
        simp
      · simp only [execOp, hop, Instr.buildSlice, sizeOf, typeInfo, newRow, zeroValue, Sem.run_bind, Sem.run_ite, Sem.run_pure, run_program, run_newObj, Result.andThen_ok, run_underlying hu, hi, hz, hsz, h0, hlim, hpa, hcs]
        simp
    · cases he
  · cases he

theorem makeSlice_op {t : TypeId} {l q : Operand} {c : Prop} {u : Upd} (h : SatS w0 ρ T M N a w) (hid : ∀ k, (M k).isSome = true → Out id k) (hop : o.op = .makeSlice t l q)
    (he : opEff P T M id (.makeSlice t l q) = .ok c u) (hc : c) (hK : Goes w0 ρ M id u fun y w' => K (a.put o.dst y) w') : o.wp P a w K Q := by
  simp only [opEff] at he
  split at he
  · rename_i m kl n kc n' hm hl hq
    have hvl := h.evv hl
    have hvq := h.evv hq
    simp only [Eff.ok.injEq] at he
    obtain ⟨rfl, rfl⟩ := he
    obtain ⟨rfl, h0, hb, h63, hzl, hone⟩ := hc
    obtain ⟨i, z, hu, hi, hz, hsz, hby, hzc⟩ := mkI_spec hm
    obtain ⟨k, rfl⟩ := Int.eq_ofNat_of_zero_le h0
    simp only [Int.toNat_natCast] at hb hK ⊢
    obtain ⟨w', hrun, hown, hg⟩ := run_make_full (P := P) w w.heap.size t m.e i z m.size hu hi hz hsz kl kc k (by rw [hby]; exact hb) (by simp only [maxLen]; omega) (Nat.le_refl _)
    have hzz : z.cells = m.zero.toArray := by rw [← hzc]
    rw [hzz] at hown
    refine row_step h hid ?_ ?_ ((Fr.of_grown hg).mono (fun _ x => by cases x)) hown hK
    · rw [List.all_eq_true] at hone ⊢
      intro v hv
      simp only [madeCells, Array.toList_map, List.mem_map] at hv
      obtain ⟨j, hj, rfl⟩ := hv
      have hjl : j < k * m.size := by simpa using hj
      have hpos : 0 < m.zero.length := by rw [hzl]; exact Nat.pos_of_ne_zero (fun e => by simp [e] at hjl)
      have hlt : j % m.zero.length < m.zero.length := Nat.mod_lt _ hpos
      simp only [List.size_toArray]
      rw [getElem!_pos m.zero.toArray _ (by simpa using hlt)]
      exact hone _ (by simp)
    · simp [execOp, hop, hvl, hvq, hrun]
  · cases he

end
end Go.Sx
