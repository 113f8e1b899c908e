/-
  The machine: contracts out of code. No conditions.
-/
import Derived.Test.YtmgheellmllfpaaSxm
namespace Go.Sx
section
variable {P : Program} {Q : St → Prop}

def noMv : List Arg → Prop
  | [] => True
  | .mv .. :: _ => False
  | _ :: l => noMv l
def argA : Nat → List Arg → List AV
  | _, [] => []
  | i, .val x :: l => .o (.v x) :: argA (i + 1) l
  | i, .sl n _ _ :: l => .o (.s i 0 n) :: argA (i + 1) l
  | i, .mv _ _ n _ :: l => .o (.r i n) :: argA (i + 1) l
def argE : Nat → List Arg → Mem
  | _, [] => []
  | i, .sl _ _ xs :: l => (i, .view false xs) :: argE (i + 1) l
  | i, _ :: l => argE (i + 1) l

def resMatch (M : MemF) : AV → Res → Prop
  | .o (.v x), .val y => x = y
  | .o (.v (.slice none 0 0)), .row _ _ n xs => n = 0 ∧ xs = []
  | .o (.r k _), .row e size n xs => M k = some (.row e size n xs)
  | .o (.v (.slice none 0 0)), .view n _ xs => n = 0 ∧ xs = []
  | .o (.r k _), .view n size xs => ∃ e, M k = some (.row e size n xs)
  | .o (.s k off n'), .view n size xs => n' = n ∧ xs.length = n * size ∧ (match M k with | some e => e.fresh = true ∧ (match e.cells with | some cs => (cs.drop off).take (n * size) = xs | none => False) | none => False)
  | _, _ => False
def retA (P : Program) (T : Nat → AV) (M : MemF) : ResultVar → Res → Prop
  | .tmp t, r => resMatch M (T t) r
  | .cell t ty, .val x => match T t with
    | .o (.p k off) => match loadEff P M ty k off with
      | .ok c u => c ∧ u = val x
      | _ => False
    | _ => False
  | _, _ => False
def retAll (P : Program) (T : Nat → AV) (M : MemF) : List ResultVar → List Res → Prop
  | [], [] => True
  | v :: l, r :: rs => retA P T M v r ∧ retAll P T M l rs
  | _, _ => False
def retIds (T : Nat → AV) : List ResultVar → List Nat
  | [] => []
  | .tmp t :: l => (match T t with | .o (.r k _) => [k] | .o (.s k _ _) => [k] | _ => []) ++ retIds T l
  | .cell _ _ :: l => retIds T l
def RetQ (P : Program) (vars : List ResultVar) (rs : List Res) (st : St) : Prop := retAll P st.T st.m.get vars rs ∧ (retIds st.T vars).Nodup

theorem args_len {w : World} : ∀ {as : List Arg} {ys : List Value}, ArgsOK w as ys → as.length = ys.length
  | [], [], _ => rfl
  | _ :: _, _ :: _, h => by simp [args_len h.2]
  | [], _ :: _, h => h.elim
  | _ :: _, [], h => h.elim
theorem args_at {w : World} : ∀ {as : List Arg} {ys : List Value} {i : Nat} {b : Arg}, ArgsOK w as ys → as[i]? = some b → ∃ y, ys[i]? = some y ∧ ArgOK w b y
  | b :: _, y :: _, 0, b', h, h1 => by simp at h1; subst h1; exact ⟨y, rfl, h.1⟩
  | _ :: _, _ :: _, i + 1, _, h, h1 => by simpa using args_at h.2 (by simpa using h1)
  | [], _, _, _, _, h1 => by simp at h1
  | _ :: _, [], _, _, h, _ => h.elim
theorem argE_get : ∀ {as : List Arg} {j k : Nat} {e : Ent}, (argE j as).get k = some e → ∃ i n size xs, k = j + i ∧ as[i]? = some (.sl n size xs) ∧ e = .view false xs
  | [], _, _, _, h => by cases h
  | b :: as, j, k, e, h => by
    have rest : (argE (j + 1) as).get k = some e → ∃ i n size xs, k = j + i ∧ (b :: as)[i]? = some (.sl n size xs) ∧ e = .view false xs := by
      intro h'
      obtain ⟨i, n, size, xs, h1, h2, h3⟩ := argE_get h'
      exact ⟨i + 1, n, size, xs, by omega, by simpa using h2, h3⟩
    cases b with
    | val x => exact rest h
    | mv e2 size n xs => exact rest h
    | sl n size xs =>
      simp only [argE, Mem.get] at h
      split at h
      · rename_i hk
        simp only [Option.some.injEq] at h
        exact ⟨0, n, size, xs, by omega, rfl, h.symm⟩
      · exact rest h
theorem argE_live : ∀ {as : List Arg} {j i n size : Nat} {xs : List Value}, as[i]? = some (.sl n size xs) → ((argE j as).get (j + i)).isSome = true
  | [], _, _, _, _, _, h => by simp at h
  | b :: as, j, 0, n, size, xs, h => by simp at h; subst h; simp [argE, Mem.get]
  | b :: as, j, i + 1, n, size, xs, h => by
    have ih := argE_live (j := j + 1) (i := i) (as := as) (by simpa using h)
    have e : j + 1 + i = j + (i + 1) := by omega
    rw [e] at ih
    cases b with
    | val x => exact ih
    | mv e2 s2 n2 x2 => exact ih
    | sl n2 s2 x2 => simp only [argE, Mem.get]; split <;> first | rfl | exact ih
theorem argA_at : ∀ {as : List Arg} {j i : Nat}, noMv as → i < as.length → (∃ x, as[i]? = some (.val x) ∧ (argA j as)[i]? = some (.o (.v x))) ∨ (∃ n size xs, as[i]? = some (.sl n size xs) ∧ (argA j as)[i]? = some (.o (.s (j + i) 0 n)))
  | [], _, _, _, h => by simp at h
  | .val x :: as, j, 0, _, _ => .inl ⟨x, rfl, rfl⟩
  | .sl n size xs :: as, j, 0, _, _ => .inr ⟨n, size, xs, rfl, rfl⟩
  | .mv .. :: _, _, _, hn, _ => hn.elim
  | .val x :: as, j, i + 1, hn, h => by
    rcases argA_at (j := j + 1) (i := i) (as := as) hn (by simpa using h) with ⟨y, h1, h2⟩ | ⟨n, size, ys, h1, h2⟩
    · exact .inl ⟨y, by simpa using h1, by simpa [argA] using h2⟩
    · have e : j + 1 + i = j + (i + 1) := by omega
      rw [e] at h2
      exact .inr ⟨n, size, ys, by simpa using h1, by simpa [argA] using h2⟩
  | .sl m s2 x2 :: as, j, i + 1, hn, h => by
    rcases argA_at (j := j + 1) (i := i) (as := as) hn (by simpa using h) with ⟨y, h1, h2⟩ | ⟨n, size, ys, h1, h2⟩
    · exact .inl ⟨y, by simpa using h1, by simpa [argA] using h2⟩
    · have e : j + 1 + i = j + (i + 1) := by omega
      rw [e] at h2
      exact .inr ⟨n, size, ys, by simpa using h1, by simpa [argA] using h2⟩
theorem argA_len : ∀ {as : List Arg} {j : Nat}, (argA j as).length = as.length
  | [], _ => rfl
  | .val _ :: as, j => by simp [argA, argA_len (as := as) (j := j + 1)]
  | .sl .. :: as, j => by simp [argA, argA_len (as := as) (j := j + 1)]
  | .mv .. :: as, j => by simp [argA, argA_len (as := as) (j := j + 1)]

theorem start_sat {as : List Arg} {w : World} {ys : List Value} (hn : noMv as) (h : ArgsOK w as ys) (N : Nat) :
    ∃ ρ, SatN w ρ ⟨argA 0 as ++ List.replicate (N - as.length) (.o (.v undef)), argE 0 as, as.length⟩ ⟨ys.toArray ++ Array.replicate (N - ys.toArray.size) undef, []⟩ w := by
  have hlen := args_len h
  refine ⟨fun k => match ys[k]? with | some y => newLoc y | none => ⟨default, undef⟩, ⟨RowKit.Below.refl _ _, ⟨?_, ?_⟩, ?_, ?_, rfl⟩, ?_⟩
  · intro k e hk
    obtain ⟨i, n, size, xs, rfl, h2, rfl⟩ := argE_get hk
    obtain ⟨y, hy, hA⟩ := args_at h h2
    simp only [Nat.zero_add, hy]
    obtain ⟨o, cap, rfl, hle, hl, hnil, hone, hr⟩ := hA
    refine ⟨?_, hone, by simp⟩
    intro j u hj
    obtain ⟨ad, rfl, hr2⟩ := hr (by intro e; subst e; simp at hj)
    exact hr2 j u hj
  · intro k e k' e' hk ho
    obtain ⟨i, n, size, xs, _, _, rfl⟩ := argE_get hk
    simp [Ent.fresh] at ho
  · intro i
    show Den _ _ ((argA 0 as ++ List.replicate (N - as.length) (AV.o (.v undef))).getD i (.o .any)) ((ys.toArray ++ Array.replicate (N - ys.toArray.size) undef).getD i undef)
    by_cases hi : i < as.length
    · have hiy : i < ys.length := by omega
      have e1 : (ys.toArray ++ Array.replicate (N - ys.toArray.size) undef).getD i undef = ys[i] := by
        rw [Array.getD_eq_getD_getElem?, Array.getElem?_append_left (by simpa using hiy)]
        simp [hiy]
      rw [e1]
      have e2 : (argA 0 as ++ List.replicate (N - as.length) (AV.o (.v undef))).getD i (.o .any) = (argA 0 as).getD i (.o .any) := by
        rw [List.getD_eq_getElem?_getD, List.getElem?_append_left (by rw [argA_len]; exact hi), ← List.getD_eq_getElem?_getD]
      rw [e2]
      rcases argA_at (j := 0) hn hi with ⟨x, h1, h2⟩ | ⟨n, size, xs, h1, h2⟩
      · obtain ⟨y, hy, hA⟩ := args_at h h1
        rw [List.getD_eq_getElem?_getD, h2]
        have : ys[i] = y := by rw [List.getElem?_eq_getElem hiy] at hy; simpa using hy
        rw [this]; exact hA
      · obtain ⟨y, hy, hA⟩ := args_at h h1
        rw [List.getD_eq_getElem?_getD, h2]
        have hyy : ys[i] = y := by rw [List.getElem?_eq_getElem hiy] at hy; simpa using hy
        rw [hyy]
        obtain ⟨o, cap, rfl, hle, hl, hnil, hone, hr⟩ := hA
        refine ⟨by simpa using argE_live (j := 0) h1, o, cap, rfl, hle, ?_, hnil⟩
        by_cases h0 : n = 0
        · exact .inl h0
        · refine .inr ?_
          simp only [Nat.zero_add, hy]
          cases o with
          | none => have := hnil rfl; omega
          | some ad => simp [newLoc, Addr.add]
    · have e1 : (ys.toArray ++ Array.replicate (N - ys.toArray.size) undef).getD i undef = undef := by
        rw [Array.getD_eq_getD_getElem?, Array.getElem?_append_right (by simp; omega)]
        simp [Array.getElem?_replicate]
        split <;> rfl
      rw [e1]
      rw [List.getD_eq_getElem?_getD, List.getElem?_append_right (by rw [argA_len]; omega), List.getElem?_replicate]
      split
      · exact rfl
      · trivial
  · simp only [Array.size_append, List.size_toArray, Array.size_replicate, List.length_append, List.length_replicate, argA_len]
    omega
  · intro j hj
    obtain ⟨e, he⟩ := Option.isSome_iff_exists.1 hj
    obtain ⟨i, n, size, xs, rfl, h2, _⟩ := argE_get he
    have := (List.getElem?_eq_some_iff.1 h2).1
    show 0 + i < as.length
    omega

/-! ### results -/
theorem mapM_run {α β : Type} (P : Program) (w : World) (g : α → Sem β) (h : α → β → Prop) : ∀ (l : List α) (zs : List β), l.length = zs.length → (∀ (i : Nat) (a : α) (z : β), l[i]? = some a → zs[i]? = some z → (g a).run P w = .ok z w) → (l.mapM g).run P w = .ok zs w
  | [], [], _, _ => by simp
  | a :: l, z :: zs, hl, hr => by
    have h0 := hr 0 a z rfl rfl
    have ih := mapM_run P w g h l zs (by simpa using hl) (fun i a z h1 h2 => hr (i + 1) a z (by simpa using h1) (by simpa using h2))
    simp [List.mapM_cons, h0, ih]
  | [], _ :: _, hl, _ => by simp at hl
  | _ :: _, [], hl, _ => by simp at hl

def getRes (tmps : Array Value) : ResultVar → Sem Value
  | .tmp t => pure (tmps.getD t undef)
  | .cell a t => do loadVar t (← asAddr (tmps.getD a undef))

theorem results_run {fn : Func} {tmps : Array Value} {w : World} {zs : List Value} (hl : fn.results.toList.length = zs.length)
    (hr : ∀ (i : Nat) (v : ResultVar) (z : Value), fn.results.toList[i]? = some v → zs[i]? = some z → (getRes tmps v).run P w = .ok z w) : (results fn tmps).run P w = .ok (pack zs) w := by
  have h1 : (fn.results.mapM (getRes tmps)).run P w = .ok zs.toArray w := by
    rw [Array.mapM_eq_mapM_toList]
    have := mapM_run P w (getRes tmps) (fun _ _ => True) fn.results.toList zs hl hr
    simp [this]
  have h2 : results fn tmps = (do let vs ← fn.results.mapM (getRes tmps); pure (if h : vs.size = 1 then vs[0] else .tuple vs)) := by
    unfold results
    congr 1
  rw [h2]
  simp only [Sem.run_bind, h1, Result.andThen_ok, Sem.run_pure]
  match zs with
  | [] => rfl
  | [z] => rfl
  | _ :: _ :: _ => simp [pack]

/-- One result, of its cell or slot. -/
theorem retA_run {w0 : World} {ρ : Nat → Loc} {T : Nat → AV} {M : MemF} {N : Nat} {a : Act} {w : World} (h : SatS w0 ρ T M N a w) {v : ResultVar} {r : Res} (hr : retA P T M v r) :
    ∃ z, (getRes a.tmps v).run P w = .ok z w ∧ ResOK w (fun b => w0.heap.size ≤ b) r z ∧
      (∀ b, ResBlk r z = some b → ∃ t k e, v = .tmp t ∧ ((∃ n, T t = .o (.r k n)) ∨ ∃ off n, T t = .o (.s k off n)) ∧ M k = some e ∧ e.blk (ρ k) = some b) := by
  cases v with
  | cell t ty =>
    cases r with
    | val x =>
      simp only [retA] at hr
      split at hr
      · rename_i k off hT
        split at hr
        · rename_i c u he
          obtain ⟨hc, rfl⟩ := hr
          have hd := h.slot t
          rw [hT] at hd
          obtain ⟨_, hd⟩ := hd
          have hop : ({ dst := none, op := .load ty (.tmp t), type := 0, pos := "", after := #[], guard := none } : Oper).op = .load ty (.tmp t) := rfl
          refine ⟨x, ?_, rfl, by simp [ResBlk]⟩
          unfold loadEff at he
          split at he
          · rename_i e sz g hM hsz hg
            have hs := h.mem.ent k e hM
            split at he
            · rename_i cs hcs
              cases g with
              | true =>
                simp only [Eff.ok.injEq] at he
                obtain ⟨rfl, he⟩ := he
                obtain ⟨hf, hp⟩ := hc
                have hx : Value.agg ((cs.drop off).take sz).toArray = x := by simpa [val] using he
                subst hx
                have hrd := hs.reads hcs (by intro e0; subst e0; simp at hf; omega)
                have hlen : ((cs.drop off).take sz).length = sz := by simp; omega
                have hl := run_loadCells_list (P := P) w (((ρ k).a).add off) ((cs.drop off).take sz) (fun j v hj => by
                  rw [addr_add_add]
                  refine hrd (off + j) v ?_
                  rw [List.getElem?_take] at hj
                  split at hj
                  · rwa [List.getElem?_drop] at hj
                  · cases hj)
                rw [hlen] at hl
                simp only [getRes, hd, asAddr, loadVar, Sem.run_bind, Sem.run_pure, Result.andThen_ok, run_isAgg' hg, run_sizeOf' hsz, if_true, hl]
              | false =>
                simp only [Eff.ok.injEq] at he
                obtain ⟨rfl, he⟩ := he
                have hx : cs.getD off undef = x := by simpa [val] using he
                have hrd := hs.reads hcs (by intro e0; subst e0; simp at hc)
                have hcell := hrd off (cs.getD off undef) (by simp [List.getD, List.getElem?_eq_getElem hc])
                rw [hx] at hcell
                simp only [getRes, hd, asAddr, loadVar, Sem.run_bind, Sem.run_pure, Result.andThen_ok, run_isAgg' hg, Bool.false_eq_true, if_false]
                simp [hcell]
            · cases he
          · cases he
        · exact hr.elim
      · exact hr.elim
    | _ => exact hr.elim
  | tmp t =>
    have hr : resMatch M (T t) r := hr
    have hd := h.slot t
    refine ⟨a.tmps.getD t undef, rfl, ?_⟩
    have nilrow : T t = .o (.v (.slice none 0 0)) → a.tmps.getD t undef = .slice none 0 0 := by intro hT; rw [hT] at hd; exact hd
    cases r with
    | val x =>
      cases hT : T t with
      | o a0 =>
        cases a0 with
        | v y =>
          rw [hT] at hr hd
          have hr : y = x := by
            cases y <;> first | exact hr | skip
          subst hr
          exact ⟨hd, by simp [ResBlk]⟩
        | _ => rw [hT] at hr; exact hr.elim
      | t l => rw [hT] at hr; exact hr.elim
    | row e size n xs =>
      unfold resMatch at hr
      split at hr
      · rename_i h1 _ h2; cases h2
      · rename_i h1 h2
        cases h2
        obtain ⟨rfl, rfl⟩ := hr
        rw [nilrow h1]
        exact ⟨⟨World.ownsRow_nil _ _ _ _, by simp, by simp [Value.ownBlock]⟩, by simp [ResBlk, Value.ownBlock]⟩
      · rename_i k n0 e' s' n' xs' h1 h2
        cases h2
        rw [h1] at hd
        obtain ⟨_, hd, _⟩ := hd
        have hs := h.mem.ent k _ hr
        have hs' := hs
        obtain ⟨g1, g2, g3⟩ := hs
        rw [hd]
        refine ⟨⟨⟨g1.1, g1.2.imp (fun x => x) fun ⟨g, cap, cur, hv, hg, rest⟩ => ⟨g, cap, cur, hv, Nat.zero_le _, rest⟩⟩, g3, fun b hb => (g1.lt b hb).1⟩, fun b hb => ⟨t, k, _, rfl, .inl ⟨n0, h1⟩, hr, hb⟩⟩
      · rename_i h2; cases h2
      · rename_i h2; cases h2
      · rename_i h2; cases h2
      · exact hr.elim
    | view n size xs =>
      unfold resMatch at hr
      split at hr
      · rename_i h2; cases h2
      · rename_i h2; cases h2
      · rename_i h2; cases h2
      · rename_i h1 h2
        cases h2
        obtain ⟨rfl, rfl⟩ := hr
        rw [nilrow h1]
        exact ⟨⟨⟨none, 0, rfl, Nat.le_refl _, by simp, fun _ => rfl, by simp, by simp⟩, by simp⟩, by simp [ResBlk]⟩
      · rename_i k n0 n' s' xs' h1 h2
        cases h2
        obtain ⟨e, hr⟩ := hr
        rw [h1] at hd
        obtain ⟨_, hd, _⟩ := hd
        have hs := h.mem.ent k _ hr
        obtain ⟨g1, g2, g3⟩ := hs
        rw [hd]
        refine ⟨⟨?_, fun b _ hb => (g1.lt b hb).1⟩, fun b hb => ⟨t, k, _, rfl, .inl ⟨n0, h1⟩, hr, ?_⟩⟩
        · rcases g1.2 with ⟨hv, h0⟩ | ⟨g, cap, cur, hv, _, _, hnc, _⟩
          · subst h0
            exact ⟨none, 0, hv, Nat.le_refl _, g1.1, fun _ => rfl, g3, fun hne => absurd (List.eq_nil_of_length_eq_zero (by simpa using g1.1)) hne⟩
          · exact ⟨_, cap, hv, hnc, g1.1, by simp, g3, fun _ => ⟨_, rfl, g1.cells (g := g) (by simp [hv, Value.ownBlock])⟩⟩
        · simp only [ResBlk] at hb
          split at hb
          · cases hb
          · exact hb
      · rename_i k off n0 n' s' xs' h1 h2
        cases h2
        obtain ⟨rfl, hl, hr⟩ := hr
        split at hr
        · rename_i e hM
          obtain ⟨hfr, hr⟩ := hr
          split at hr
          · rename_i cs hcs
            rw [h1] at hd
            obtain ⟨_, o', cap, hd, hle, hor, hnil⟩ := hd
            have hs := h.mem.ent k e hM
            have hone := hs.one hcs
            have key : xs ≠ [] → o' = some ((ρ k).a.add off) ∧ cs ≠ [] := by
              intro hne
              refine ⟨hor.resolve_left ?_, ?_⟩
              · intro e0; subst e0; simp at hl; exact hne hl
              · intro e0; subst e0; rw [← hr] at hne; simp at hne
            have blk : xs ≠ [] → e.blk (ρ k) = some (ρ k).a.block := by
              intro hne
              obtain ⟨_, hcne⟩ := key hne
              cases e with
              | box _ => rfl
              | row e2 sz n2 xs2 =>
                simp only [Ent.cells, Option.some.injEq] at hcs
                subst hcs
                obtain ⟨g1, g2, _⟩ := hs
                rcases g1.2 with ⟨hvv, h0⟩ | ⟨g, cap2, cur, hvv, _⟩
                · subst h0
                  exact absurd (List.eq_nil_of_length_eq_zero (by simpa using g1.1)) hcne
                · rw [blk_row, hvv, g2 _ _ _ hvv]; rfl
              | view fr xs2 =>
                simp only [Ent.cells, Option.some.injEq] at hcs
                subst hcs
                cases xs2 with
                | nil => exact absurd rfl hcne
                | cons x2 xs2 => simp [Ent.blk]
              | dead => simp [Ent.cells] at hcs
            refine ⟨⟨⟨o', cap, hd, hle, hl, hnil, ?_, ?_⟩, ?_⟩, ?_⟩
            · intro u hu
              rw [← hr] at hu
              exact hone u (List.mem_of_mem_drop (List.mem_of_mem_take hu))
            · intro hne
              obtain ⟨ho, hcne⟩ := key hne
              refine ⟨_, ho, fun j u hj => ?_⟩
              rw [addr_add_add]
              refine hs.reads hcs hcne (off + j) u ?_
              rw [← hr, List.getElem?_take] at hj
              split at hj
              · rwa [List.getElem?_drop] at hj
              · cases hj
            · intro b hne hb
              have hne : xs ≠ [] := by intro e0; subst e0; simp at hne
              obtain ⟨ho, hcne⟩ := key hne
              rw [hd, ho] at hb
              simp only [Value.ownBlock, addr_add_block, Option.some.injEq] at hb
              have hbk := blk hne
              rw [hb] at hbk
              cases e with
              | view fr xs2 =>
                have hfr : fr = true := hfr
                obtain ⟨_, _, g3⟩ := hs
                rw [← hb]
                refine g3 hfr ?_
                simp only [Ent.cells, Option.some.injEq] at hcs
                subst hcs
                cases xs2 with
                | nil => exact absurd rfl hcne
                | cons x2 xs2 => rfl
              | dead => simp [Ent.cells] at hcs
              | box cs2 => exact hs.ge rfl hbk
              | row e2 s2 n2 x2 => exact hs.ge rfl hbk
            · intro b hb
              simp only [ResBlk] at hb
              split at hb
              · cases hb
              · rename_i hne
                have hne : xs ≠ [] := by intro e0; subst e0; simp at hne
                obtain ⟨ho, hcne⟩ := key hne
                rw [hd, ho] at hb
                simp only [Value.ownBlock, addr_add_block, Option.some.injEq] at hb
                exact ⟨t, k, e, rfl, .inr ⟨off, n0, h1⟩, hM, by rw [blk hne, hb]⟩
          · exact hr.elim
        · exact hr.elim
      · exact hr.elim

end
end Go.Sx
