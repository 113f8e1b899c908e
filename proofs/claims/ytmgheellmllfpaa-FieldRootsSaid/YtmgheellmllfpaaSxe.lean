/-
  The machine's operations: slices, numbers, append; and all of them together but calls of functions (op_sound0). No conditions.
-/
import Derived.Test.YtmgheellmllfpaaSxd
namespace Go.Sx
section
variable {P : Program} {w0 : World} {ρ : Nat → Loc} {T : Nat → AV} {M : MemF} {N : Nat} {a : Act} {w : World} {id : Nat} {o : Oper}
  {K : Act → World → Prop} {Q : Exit → Act → World → Prop}

theorem SatS.evo (h : SatS w0 ρ T M N a w) {lo : Option Operand} : ∀ {k : IntKind} {l : Int}, lo.map (ev T) = some (.o (.v (.int k l))) → lo.map a.eval = some (.int k l) := by
  intro k l hl
  cases lo with
  | none => simp at hl
  | some x => simp at hl; simp [h.evv hl]

/-- A slice expression over something that lies at ad, of length len and room cap. -/
theorem sliceBounds_run {isS : Bool} {len cap : Nat} (hcap : len ≤ cap) {k off sz : Nat} {lo hi mx : Option Operand} {c : Prop} {u : Upd} (h : SatS w0 ρ T M N a w)
    (he : sliceEff k off sz len (lo.map (ev T)) (hi.map (ev T)) (mx.map (ev T)) = .ok c u) (hc : c) :
    ∃ l hh m, (Instr.sliceBounds isS len cap (lo.map a.eval) (hi.map a.eval) (mx.map a.eval)).run P w = .ok (l, hh, m) w ∧ l ≤ hh ∧ hh ≤ len ∧ hh ≤ m ∧ m ≤ cap ∧ u = ⟨.o (.s k (off + l * sz) (hh - l)), [], []⟩ := by
  unfold sliceEff at he
  split at he
  · rename_i h1 h2 h3
    have e1 : lo = none := by simpa using h1
    have e2 : hi = none := by simpa using h2
    have e3 : mx = none := by simpa using h3
    subst e1 e2 e3
    simp only [Eff.ok.injEq] at he
    exact ⟨0, len, cap, by simp [Instr.sliceBounds], by omega, by omega, hcap, Nat.le_refl _, by rw [← he.2]; simp⟩
  · rename_i kh q h1 h2 h3
    have e1 : lo = none := by simpa using h1
    have e3 : mx = none := by simpa using h3
    have e2 := h.evo h2
    subst e1 e3
    simp only [Eff.ok.injEq] at he
    obtain ⟨rfl, rfl⟩ := he
    obtain ⟨q, rfl⟩ := Int.eq_ofNat_of_zero_le hc.1
    have : q ≤ cap := by omega
    exact ⟨0, q, cap, by simp [Instr.sliceBounds, e2, Instr.sliceBound, asIntOf, this], by omega, by omega, by omega, by omega, by simp⟩
  · rename_i kl q h1 h2 h3
    have e2 : hi = none := by simpa using h2
    have e3 : mx = none := by simpa using h3
    have e1 := h.evo h1
    subst e2 e3
    simp only [Eff.ok.injEq] at he
    obtain ⟨rfl, rfl⟩ := he
    obtain ⟨q, rfl⟩ := Int.eq_ofNat_of_zero_le hc.1
    have : q ≤ len := by omega
    exact ⟨q, len, cap, by simp [Instr.sliceBounds, e1, Instr.sliceBound, asIntOf, this], by omega, by omega, by omega, by omega, by simp⟩
  · rename_i kl ql kh qh h1 h2 h3
    have e3 : mx = none := by simpa using h3
    have e1 := h.evo h1
    have e2 := h.evo h2
    subst e3
    simp only [Eff.ok.injEq] at he
    obtain ⟨rfl, rfl⟩ := he
    obtain ⟨ql, rfl⟩ := Int.eq_ofNat_of_zero_le hc.1
    obtain ⟨qh, rfl⟩ := Int.eq_ofNat_of_zero_le (Int.le_trans hc.1 hc.2.1)
    have t1 : qh ≤ cap := by omega
    have t2 : ql ≤ qh := by omega
    exact ⟨ql, qh, cap, by simp [Instr.sliceBounds, e1, e2, Instr.sliceBound, asIntOf, t1, t2], by omega, by omega, by omega, by omega, by simp⟩
  · rename_i kh qh km qm h1 h2 h3
    have e1 : lo = none := by simpa using h1
    have e2 := h.evo h2
    have e3 := h.evo h3
    subst e1
    simp only [Eff.ok.injEq] at he
    obtain ⟨rfl, rfl⟩ := he
    obtain ⟨qh, rfl⟩ := Int.eq_ofNat_of_zero_le hc.1
    obtain ⟨qm, rfl⟩ := Int.eq_ofNat_of_zero_le (Int.le_trans hc.1 hc.2.1)
    have t1 : qm ≤ cap := by omega
    have t2 : qh ≤ qm := by omega
    exact ⟨0, qh, qm, by simp [Instr.sliceBounds, e2, e3, Instr.sliceBound, asIntOf, t1, t2], by omega, by omega, by omega, by omega, by simp⟩
  · cases he

theorem slice_op {ty : TypeId} {x : Operand} {lo hi mx : Option Operand} {c : Prop} {u : Upd} (h : SatS w0 ρ T M N a w) (hop : o.op = .slice ty x lo hi mx)
    (he : opEff P T M id (.slice ty x lo hi mx) = .ok c u) (hc : c) (hK : Goes w0 ρ M id u fun y w' => K (a.put o.dst y) w') : o.wp P a w K Q := by
  simp only [opEff] at he
  split at he
  · rename_i k off hx
    have hv := h.eval x
    rw [hx] at hv
    obtain ⟨hl, hv⟩ := hv
    split at he
    · rename_i n s harr
      obtain ⟨e, hu, hs⟩ := arrI_spec harr
      obtain ⟨l, hh, m, hrun, h1, h2, h3, h4, rfl⟩ := sliceBounds_run (P := P) (isS := false) (Nat.le_refl n) h he hc
      refine pure_step (r := .o (.s k (off + l * s) (hh - l))) h (y := .slice (some (if m = l then (ρ k).a.add off else (ρ k).a.add (off + l * s))) (hh - l) (m - l)) ?_ ⟨hl, _, _, rfl, by omega, ?_, by simp⟩ hK
      · simp [execOp, hop, hv, Instr.sliceAt, run_underlying hu, Instr.sureAddr, hrun, run_sizeOf' hs, addr_add_add]
      · by_cases hml : m = l
        · exact .inl (by omega)
        · exact .inr (by simp [hml])
    · cases he
  · rename_i k off len hx
    have hv := h.eval x
    rw [hx] at hv
    obtain ⟨hl, o', cap, hv, hle, hor, hnil⟩ := hv
    split at he
    · rename_i s hsl
      obtain ⟨e, hu, hs⟩ := slI_spec hsl
      obtain ⟨l, hh, m, hrun, h1, h2, h3, h4, rfl⟩ := sliceBounds_run (P := P) (isS := true) hle h he hc
      refine pure_step (r := .o (.s k (off + l * s) (hh - l))) h (y := .slice (if m = l then o' else o'.map (·.add (l * s))) (hh - l) (m - l)) ?_ ⟨hl, _, _, rfl, by omega, ?_, ?_⟩ hK
      · simp [execOp, hop, hv, Instr.sliceAt, Instr.slice, run_underlying hu, hrun, run_sizeOf' hs]
      · by_cases hml : m = l
        · exact .inl (by omega)
        · rcases hor with h0 | h0
          · exact .inl (by omega)
          · exact .inr (by simp [hml, h0, addr_add_add])
      · intro hn
        by_cases hml : m = l
        · omega
        · simp [hml] at hn
          have := hnil hn
          omega
    · cases he
  · rename_i k n hx
    have hv := h.eval x
    rw [hx] at hv
    obtain ⟨hl, _, o', cap, hv, hle, hor, hnil⟩ := hv
    split at he
    · rename_i s hsl
      obtain ⟨e, hu, hs⟩ := slI_spec hsl
      obtain ⟨l, hh, m, hrun, h1, h2, h3, h4, rfl⟩ := sliceBounds_run (P := P) (isS := true) hle h he hc
      refine pure_step (r := .o (.s k (0 + l * s) (hh - l))) h (y := .slice (if m = l then o' else o'.map (·.add (l * s))) (hh - l) (m - l)) ?_ ⟨hl, _, _, rfl, by omega, ?_, ?_⟩ hK
      · simp [execOp, hop, hv, Instr.sliceAt, Instr.slice, run_underlying hu, hrun, run_sizeOf' hs]
      · by_cases hml : m = l
        · exact .inl (by omega)
        · rcases hor with h0 | h0
          · exact .inl (by omega)
          · exact .inr (by simp [hml, h0])
      · intro hn
        by_cases hml : m = l
        · omega
        · simp [hml] at hn
          have := hnil hn
          omega
    · cases he
  · cases he

theorem sliceToArray_op {ty : TypeId} {x : Operand} {c : Prop} {u : Upd} (h : SatS w0 ρ T M N a w) (hop : o.op = .sliceToArrayPointer ty x)
    (he : opEff P T M id (.sliceToArrayPointer ty x) = .ok c u) (hc : c) (hK : Goes w0 ρ M id u fun y w' => K (a.put o.dst y) w') : o.wp P a w K Q := by
  simp only [opEff] at he
  split at he
  · rename_i k off len n s hx harr
    have hv := h.eval x
    rw [hx] at hv
    obtain ⟨hl, o', cap, hv, hle, hor, hnil⟩ := hv
    obtain ⟨e, hu, hs⟩ := arrI_spec harr
    simp only [Eff.ok.injEq] at he
    obtain ⟨rfl, rfl⟩ := he
    have ho' := hor.resolve_left (by omega)
    subst ho'
    refine pure_step (r := .o (.p k off)) h (y := .pointer (some ((ρ k).a.add off))) ?_ ⟨hl, rfl⟩ hK
    have : ¬ len < n := by omega
    simp [execOp, hop, hv, Instr.arrayAt, run_underlying hu, this]
  · cases he

theorem denL_getD : ∀ {l : List A0} {ys : List Value} (i : Nat), DenL ρ M l ys → i < l.length → ∃ y, ys[i]? = some y ∧ Den0 ρ M (l.getD i .any) y
  | a :: l, y :: ys, 0, h, _ => ⟨y, rfl, h.1⟩
  | a :: l, y :: ys, i + 1, h, hi => by simpa using denL_getD i h.2 (by simpa using hi)
  | [], _, i, _, hi => by simp at hi
  | _ :: _, [], _, h, _ => h.elim

theorem extract_op {x : Operand} {i : Nat} {c : Prop} {u : Upd} (h : SatS w0 ρ T M N a w) (hop : o.op = .extract x i)
    (he : opEff P T M id (.extract x i) = .ok c u) (hc : c) (hK : Goes w0 ρ M id u fun y w' => K (a.put o.dst y) w') : o.wp P a w K Q := by
  simp only [opEff] at he
  split at he
  · rename_i l hx
    have hv := h.eval x
    rw [hx] at hv
    obtain ⟨ys, hy, hl⟩ := hv
    simp only [Eff.ok.injEq] at he
    obtain ⟨rfl, rfl⟩ := he
    obtain ⟨y, hyi, hd⟩ := denL_getD i hl hc
    refine pure_step (r := .o (l.getD i .any)) h (y := y) ?_ hd hK
    simp [execOp, hop, hy, Instr.extract, hyi]
  · cases he

theorem pureOp_step {op : Op} {z : Value} (h : SatS w0 ρ T M N a w) (hop : o.op = op) (hz : pureOp P T op z) (hK : Goes w0 ρ M id (val z) fun y w' => K (a.put o.dst y) w') : o.wp P a w K Q :=
  pure_step (r := .o (.v z)) h (hz o a.eval w hop (fun _ _ _ hy => h.evv hy) (fun _ => rfl)) rfl hK

theorem eqGuard_ints (op : BinOp) (ty : TypeId) (x y : Operand) (k k' : IntKind) (p q : Int) (w : World) : (eqGuard op ty x y (.int k p) (.int k' q)).run P w = .ok () w := by
  cases op <;> simp [eqGuard]

theorem binOp_op {bop : BinOp} {ty ty' : TypeId} {x y : Operand} {k k' : IntKind} {p q : Int} {fb : Eff} {c : Prop} {u : Upd} (h : SatS w0 ρ T M N a w) (hop : o.op = .binOp bop ty x y ty')
    (hx : ev T x = .o (.v (.int k p))) (hy : ev T y = .o (.v (.int k' q))) (hfb : ∀ c u, fb ≠ .ok c u)
    (he : binEff bop k p k' q fb = .ok c u) (hc : c) (hK : Goes w0 ρ M id u fun y w' => K (a.put o.dst y) w') : o.wp P a w K Q := by
  have hvx := h.evv hx
  have hvy := h.evv hy
  have main : ∀ z, u = val z → (binOp bop ty (.int k p) (.int k' q)).run P w = .ok z w → o.wp P a w K Q := by
    intro z hu hr
    subst hu
    refine pure_step (r := .o (.v z)) h (y := z) ?_ rfl hK
    simp [execOp, hop, hvx, hvy, eqGuard_ints, hr]
  unfold binEff at he
  split at he
  · simp only [Eff.ok.injEq] at he
    obtain ⟨rfl, rfl⟩ := he
    refine main _ rfl ?_
    have : ¬ q < 0 := by omega
    simp [binOp, Op.shift, this]
  · simp only [Eff.ok.injEq] at he
    obtain ⟨rfl, rfl⟩ := he
    refine main _ rfl ?_
    have : ¬ q < 0 := by omega
    simp [binOp, Op.shift, this]
  · simp only [Eff.ok.injEq] at he
    obtain ⟨rfl, rfl⟩ := he
    obtain ⟨rfl, hq⟩ := hc
    refine main _ rfl ?_
    simp [binOp, Op.intDiv, hq]
  · simp only [Eff.ok.injEq] at he
    obtain ⟨rfl, rfl⟩ := he
    obtain ⟨rfl, hq⟩ := hc
    refine main _ rfl ?_
    simp [binOp, Op.intDiv, hq]
  · rename_i n1 n2 n3 n4
    split at he
    · rename_i cc hcc
      simp only [Eff.ok.injEq] at he
      obtain ⟨rfl, rfl⟩ := he
      subst hc
      refine main _ rfl ?_
      unfold cmpI at hcc
      split at hcc <;> first | (cases hcc; done) | (simp only [Option.some.injEq] at hcc; subst hcc; simp [binOp, Op.intCmp])
    · split at he
      · rename_i hc0 cc hcc
        simp only [Eff.ok.injEq] at he
        obtain ⟨rfl, rfl⟩ := he
        subst hc
        refine main _ rfl ?_
        unfold arI at hcc
        split at hcc <;> first | (cases hcc; done) | (simp only [Option.some.injEq] at hcc; subst hcc; simp [binOp, Op.intArith, intBits_and, intBits_or, intBits_xor])
      · exact absurd he (hfb _ _)

/-- What a slice argument shows, of its value. -/
theorem sliceCells_run {size : Nat} {x : Operand} {q : Nat} {news : List Value} (h : SatS w0 ρ T M N a w) (hs : sliceCells M size (ev T x) = some (q, news)) (hl : news.length = q * size) :
    (∀ v ∈ news, v.oneCell' = true) ∧ ((∃ ad c, a.eval x = .slice (some ad) q c ∧ q ≤ c ∧ ∀ j v, news[j]? = some v → w.cell? (ad.add j) = some v) ∨ (a.eval x = .slice none 0 0 ∧ q = 0 ∧ news = [])) := by
  have hv := h.eval x
  unfold sliceCells at hs
  split at hs
  · rename_i k off len hx
    rw [hx] at hv
    obtain ⟨_, o', cap, hv, hle, hor, hnil⟩ := hv
    split at hs
    · rename_i e hM
      split at hs
      · rename_i cs hcs
        have hen := h.mem.ent k e hM
        simp only [Option.some.injEq, Prod.mk.injEq] at hs
        obtain ⟨rfl, rfl⟩ := hs
        refine ⟨fun v hv => hen.one hcs v (List.mem_of_mem_drop (List.mem_of_mem_take hv)), ?_⟩
        by_cases h0 : len = 0
        · subst h0
          cases o' with
          | none => refine .inr ⟨?_, rfl, by simp⟩; rw [hv, hnil rfl]
          | some ad => exact .inl ⟨ad, cap, hv, by omega, by simp⟩
        · have ho := hor.resolve_left h0
          refine .inl ⟨(ρ k).a.add off, cap, by rw [hv, ho], hle, ?_⟩
          intro j v hj
          rw [addr_add_add]
          rw [List.getElem?_take] at hj
          split at hj
          · rw [List.getElem?_drop] at hj
            refine hen.reads hcs ?_ _ _ hj
            intro e0; subst e0; simp at hj
          · cases hj
      · cases hs
    · cases hs
  · rename_i k n0 hx
    rw [hx] at hv
    obtain ⟨_, hv, _⟩ := hv
    split at hs
    · rename_i e sz n xs hM
      split at hs
      · rename_i hsz
        simp only [Option.some.injEq, Prod.mk.injEq] at hs
        obtain ⟨rfl, rfl⟩ := hs
        have hen := h.mem.ent k _ hM
        obtain ⟨h1, h2, h3⟩ := hen
        refine ⟨h3, ?_⟩
        rcases h1.2 with ⟨hvv, h0⟩ | ⟨g, cap, cur, hvv, _, _, hnc, _⟩
        · subst h0
          refine .inr ⟨by rw [hv, hvv], rfl, ?_⟩
          have := h1.1
          exact List.eq_nil_of_length_eq_zero (by simpa using this)
        · exact .inl ⟨⟨g, 0, none⟩, cap, by rw [hv, hvv], hnc, h1.cells (g := g) (by simp [hvv, Value.ownBlock])⟩
      · cases hs
    · cases hs
  · rename_i hx
    rw [hx] at hv
    simp only [Option.some.injEq, Prod.mk.injEq] at hs
    obtain ⟨rfl, rfl⟩ := hs
    exact ⟨by simp, .inr ⟨hv, rfl, rfl⟩⟩
  · cases hs

/-- append, and where its row lies. -/
theorem append_run (w : World) (base : Nat) {t ty e : TypeId} {i : TypeInfo} {z : Value} {size bytes : Nat} (ht : P.underlying t = some (.slice e)) (hi : P.info? e = some i) (hz : i.zero = some z)
    (hsize : i.size = size) (hby : i.bytes = bytes) (hzs : z.cells.size = size) (hsz : 0 < size)
    {v : Value} {n : Nat} {xs : List Value} (hown : w.ownsRow base e size v n xs)
    {y : Value} {q : Nat} {news : List Value} (hl : news.length = q * size) (h1 : ∀ u ∈ news, u.oneCell' = true)
    (hy : (∃ ad c, y = .slice (some ad) q c ∧ q ≤ c ∧ ∀ j v, news[j]? = some v → w.cell? (ad.add j) = some v) ∨ (y = .slice none 0 0 ∧ q = 0 ∧ news = []))
    (h63 : n + q ≤ maxLen) (hbytes : (n + q) * bytes ≤ 140737488355328) (hbase : base ≤ w.heap.size) :
    ∃ v' w', (Builtin.append_ #[t, t] ty #[v, y]).run P w = .ok v' w' ∧ w'.ownsRow base e size v' (n + q) (xs ++ news) ∧ Fr w w' (fun k => v.ownBlock = some k) ∧
      ∀ b, v'.ownBlock = some b → v.ownBlock = some b ∨ w.heap.size ≤ b := by
  rcases hy with ⟨ad, c, rfl, _, hnews⟩ | ⟨rfl, rfl, rfl⟩
  · obtain ⟨v', w', hr, ho, hg, hnil⟩ := run_append_own (P := P) w base t ty e i z size bytes ht hi hz hsize hby hzs hsz v n xs hown ad q c news hl hnews h1 h63 hbytes hbase
    refine ⟨v', w', hr, ho, Fr.of_grown hg, ?_⟩
    have h63i : ((n + q : Nat) : Int) ≤ 9223372036854775807 := by simp only [maxLen] at h63; omega
    rcases hown.2 with ⟨rfl, rfl⟩ | ⟨g, cap, cur, rfl, hbg, hgg, hnc, hcm, hcs, htake⟩
    · by_cases hq : q = 0
      · have := hnil.2 ⟨rfl, hq⟩
        subst this
        intro b hb; simp [Value.ownBlock] at hb
      · have hr2 := run_append_nil (P := P) w t ty e i z ht hi hz ad q c news (by rw [hsize]; exact hl) hnews (by omega) (by omega) (by rw [hby]; simp at hbytes; omega)
        rw [hr] at hr2
        simp only [Result.ok.injEq] at hr2
        obtain ⟨rfl, _⟩ := hr2
        intro b hb
        simp [Value.ownBlock] at hb
        omega
    · by_cases hroom : n + q ≤ cap
      · obtain ⟨w2, hr2, _⟩ := run_append_fits (P := P) w base t ty e i size ht hi hsize g n cap xs hown ad q c news hl hnews h1 hroom
        rw [hr] at hr2
        simp only [Result.ok.injEq] at hr2
        obtain ⟨rfl, _⟩ := hr2
        intro b hb
        exact .inl hb
      · have hr2 := run_append_grow (P := P) w t ty e i z ht hi hz ⟨g, 0, none⟩ n cap xs (by rw [hsize]; exact hown.1) (hown.cells (g := g) rfl) ad q c news (by rw [hsize]; exact hl) hnews (by omega) (by omega)
          (growslice_fits (by omega) (by rw [hby]; exact hbytes))
        rw [hr] at hr2
        simp only [Result.ok.injEq] at hr2
        obtain ⟨rfl, _⟩ := hr2
        intro b hb
        simp [Value.ownBlock] at hb
        omega
  · refine ⟨v, w, run_append_owned_none (P := P) w base t ty e i size ht hi v n xs hown, by simpa using hown, Fr.refl _ _, fun b hb => .inl hb⟩

theorem blk_row (e s n : Nat) (xs : List Value) (l : Loc) : (Ent.row e s n xs).blk l = l.v.ownBlock := rfl
theorem blk_dead (l : Loc) : Ent.dead.blk l = none := rfl

theorem append_new {e sz n q n0 : Nat} {xs news : List Value} {k : Nat} {x y : Operand} {c : Call} {t : TypeId} {m : Mk} (h : SatS w0 ρ T M N a w) (hid : ∀ k, (M k).isSome = true → Out id k)
    (hop : o.op = .call c) (hcal : c.callee = .builtin .append) (hargs : c.args = #[x, y]) (htys : c.argTypes = #[t, t]) (hm : mkI P t = some m) (hx : ev T x = .o (.r k n0)) (hM : M k = some (.row e sz n xs))
    (hy : sliceCells M m.size (ev T y) = some (q, news)) (he : e = m.e) (hsz : sz = m.size) (hpos : 0 < sz) (hzl : m.zero.length = sz) (hl : news.length = q * sz) (hb : (n + q) * m.bytes ≤ 140737488355328) (h63 : n + q ≤ 9223372036854775807)
    (hK : Goes w0 ρ M id ⟨.o (.r id (n + q)), [(id, .row e sz (n + q) (xs ++ news))], [(k, .dead)]⟩ fun y w' => K (a.put o.dst y) w') : o.wp P a w K Q := by
  subst he hsz
  obtain ⟨i, z, hu, hi, hz, hsi, hby, hzc⟩ := mkI_spec hm
  have hv := h.eval x
  rw [hx] at hv
  obtain ⟨hlive, hv, _⟩ := hv
  have hen := h.mem.ent k _ hM
  obtain ⟨hown, h2, h3⟩ := hen
  obtain ⟨hone, hyv⟩ := sliceCells_run h hy hl
  have hszB := h.below.size
  have hklt := hid k hlive
  obtain ⟨v', w', hrun, hown', hfr, hblk⟩ := append_run (P := P) w w0.heap.size (ty := o.type) hu hi hz hsi hby (by rw [← Array.length_toList, hzc]; exact hzl) hpos hown hl hone hyv (by simp only [maxLen]; omega) hb hszB
  unfold Oper.wp
  have hr : (execOp a.eval o).run P w = .ok (.value v') w' := by
    simp [execOp, hop, resolve, hcal, hargs, htys, invoke, builtin, hv, hrun]
  rw [hr, Oper.upon_value]
  have hbelow : RowKit.Below w0.heap.size w0 w' := hfr.below h.below (fun b hb => (hown.lt b hb).1)
  have hkey : ∀ j e', applyM M ⟨.o (.r id (n + q)), [(id, .row m.e m.size (n + q) (xs ++ news))], [(k, .dead)]⟩ j = some e' →
      (j = id ∧ e' = .row m.e m.size (n + q) (xs ++ news)) ∨ (j = k ∧ e' = .dead) ∨ (Out id j ∧ j ≠ k ∧ M j = some e') := by
    intro j e' hj
    simp only [applyM, Mem.get] at hj
    by_cases hji : j = id
    · simp [hji] at hj; exact .inl ⟨hji, hj.symm⟩
    · simp only [hji, if_false] at hj
      cases hMj : M j with
      | none => simp [hMj] at hj
      | some e1 =>
        by_cases hjk : j = k
        · subst hjk; simp [hMj] at hj; exact .inr (.inl ⟨rfl, hj.symm⟩)
        · simp [hMj, hjk] at hj; exact .inr (.inr ⟨hid j (by simp [hMj]), hjk, by rw [hj]⟩)
  refine hK v' w' (fun j => if j = id then ⟨(match v' with | .slice (some g) _ _ => g | _ => default), v'⟩ else ρ j) (fun j hj => by simp [hj.ne]) ?_ hbelow ?_
  · have hold : ∀ j e', j ≠ k → M j = some e' → ∀ b, e'.blk (ρ j) = some b → ¬ (ρ k).v.ownBlock = some b := by
      intro j e' hne hMj b hbj hbk
      rcases h.mem.apart k _ j e' hM rfl hMj (Ne.symm hne) with hn | hn
      · rw [blk_row, hbk] at hn; cases hn
      · exact hn (by rw [blk_row, hbk, hbj])
    constructor
    · intro j e' hj
      rcases hkey j e' hj with ⟨rfl, rfl⟩ | ⟨rfl, rfl⟩ | ⟨hlt, hne, hMj⟩
      · simp only [if_true]
        refine ⟨hown', fun g c2 c3 hvv => by simp only [] at hvv; subst hvv; rfl, ?_⟩
        intro u hu'
        rcases List.mem_append.1 hu' with h' | h'
        · exact h3 u h'
        · exact hone u h'
      · trivial
      · simp only [hlt.ne, if_false]
        exact (h.mem.ent j e' hMj).frame hfr (fun b hb => hold j e' hne hMj b hb)
    · intro j e1 j' e2 hj ho hj' hne
      rcases hkey j e1 hj with ⟨rfl, rfl⟩ | ⟨rfl, rfl⟩ | ⟨hlt, hne1, hMj⟩
      · rcases hkey j' e2 hj' with ⟨rfl, rfl⟩ | ⟨rfl, rfl⟩ | ⟨hlt', hne2, hMj'⟩
        · exact absurd rfl hne
        · simp only [if_true, blk_row, blk_dead]
          cases hb' : v'.ownBlock with
          | none => exact .inl rfl
          | some b => exact .inr (by simp)
        · simp only [if_true, hlt'.ne, if_false, blk_row]
          cases hb' : v'.ownBlock with
          | none => exact .inl rfl
          | some b =>
            refine .inr fun hc => ?_
            rcases hblk b hb' with h' | h'
            · exact hold j' e2 hne2 hMj' b hc.symm h'
            · have := (h.mem.ent j' e2 hMj').lt hc.symm
              omega
      · simp [Ent.fresh] at ho
      · rcases hkey j' e2 hj' with ⟨rfl, rfl⟩ | ⟨rfl, rfl⟩ | ⟨hlt', hne2, hMj'⟩
        · simp only [if_true, hlt.ne, if_false]
          cases hbj : e1.blk (ρ j) with
          | none => exact .inl rfl
          | some b =>
            refine .inr fun hc => ?_
            rw [blk_row] at hc
            rcases hblk b hc.symm with h' | h'
            · exact hold j e1 hne1 hMj b hbj h'
            · have := (h.mem.ent j e1 hMj).lt hbj
              omega
        · cases hbj : e1.blk (if j = id then _ else ρ j) with
          | none => exact .inl rfl
          | some b => exact .inr (by simp [blk_dead])
        · simp only [hlt.ne, hlt'.ne, if_false]
          exact h.mem.apart j e1 j' e2 hMj ho hMj' hne
  · refine ⟨applyM_new M _ _ _, den_row hown' (by simp) ?_⟩
    intro g m c hy
    subst hy
    simp

end
end Go.Sx
