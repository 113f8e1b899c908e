/-
  The machine: what an operation does hangs on its operands and on the entries that these name; a region in any order; code. No conditions.
-/
import Derived.Test.YtmgheellmllfpaaSxi
namespace Go.Sx
section
variable {P : Program} {w0 : World} {ρ : Nat → Loc} {T T' : Nat → AV} {M M' : MemF} {N : Nat} {a : Act} {w : World} {id : Nat}

theorem pureOp_congr {op : Op} (hT : ∀ x ∈ op.operands.toList, ev T' x = ev T x) : pureOp P T' op = pureOp P T op := by
  funext z
  apply propext
  unfold pureOp
  constructor
  · intro h o a w ho hx hf
    exact h o a w ho (fun x hm y hy => hx x hm y (by rw [← hT x (by simpa using hm)]; exact hy)) hf
  · intro h o a w ho hx hf
    exact h o a w ho (fun x hm y hy => hx x hm y (by rw [hT x (by simpa using hm)]; exact hy)) hf

theorem plains_congr : ∀ {l : List (Nat × Operand)}, (∀ x ∈ l.map (·.2), ev T' x = ev T x) → plains T' l = plains T l
  | [], _ => rfl
  | (i, x) :: l, h => by
    simp only [plains]
    rw [h x (by simp), plains_congr (l := l) (fun y hy => h y (by simp at hy ⊢; exact .inr hy))]

theorem sliceCells_local {size : Nat} {x : AV} {n : Nat} {xs : List Value} (h : sliceCells M size x = some (n, xs)) (hM : ∀ k e, M k = some e → (M' k).isSome = true → M' k = some e) (hlive : (∀ k, (∃ n, x = .o (.r k n)) ∨ (∃ off len, x = .o (.s k off len)) → (M' k).isSome = true)) :
    sliceCells M' size x = some (n, xs) := by
  unfold sliceCells at h
  split at h
  · rename_i k off len
    have hk := hlive k (.inr ⟨off, len, rfl⟩)
    cases hMk : M k with
    | none => simp [hMk] at h
    | some e => simp only [sliceCells, hM k e hMk hk]; simpa [hMk] using h
  · rename_i k n0
    have hk := hlive k (.inl ⟨n0, rfl⟩)
    cases hMk : M k with
    | none => simp [hMk] at h
    | some e => simp only [sliceCells, hM k e hMk hk]; simpa [hMk] using h
  · exact h
  · cases h

theorem argsMatch_local : ∀ {xs : List AV} {as : List Arg}, argsMatch M xs as → (∀ k e, M k = some e → (M' k).isSome = true → M' k = some e) → (∀ x ∈ xs, ∀ k, (∃ n, x = .o (.r k n)) ∨ (∃ off len, x = .o (.s k off len)) → (M' k).isSome = true) → argsMatch M' xs as
  | [], [], _, _, _ => trivial
  | x :: xs, b :: as, h, hM, hl => by
    refine ⟨?_, argsMatch_local h.2 hM (fun y hy => hl y (by simp [hy]))⟩
    have h1 := h.1
    cases b with
    | val y =>
      cases x with
      | o a0 => cases a0 <;> first | exact h1 | exact h1.elim
      | t l => exact h1.elim
    | sl n size ys =>
      have h2 : sliceCells M size x = some (n, ys) ∧ ys.length = n * size := by
        revert h1; cases x with
        | o a0 => cases a0 <;> exact fun h1 => h1
        | t l => exact fun h1 => h1
      obtain ⟨hs, hlen⟩ := h2
      have h3 : sliceCells M' size x = some (n, ys) ∧ ys.length = n * size := ⟨sliceCells_local hs hM (hl x (by simp)), hlen⟩
      revert h3; cases x with
      | o a0 => cases a0 <;> exact fun h1 => h1
      | t l => exact fun h1 => h1
    | mv e size n ys =>
      cases x with
      | o a0 =>
        cases a0 with
        | r k n0 => exact hM k _ h1 (hl _ (by simp) k (.inl ⟨n0, rfl⟩))
        | _ => exact h1.elim
      | t l => exact h1.elim
  | [], _ :: _, h, _, _ => h.elim
  | _ :: _, [], h, _, _ => h.elim

theorem live_of_den {x : AV} {y : Value} (h : Den ρ M' x y) : ∀ k, (∃ n, x = .o (.r k n)) ∨ (∃ off len, x = .o (.s k off len)) → (M' k).isSome = true := by
  rintro k (⟨n, rfl⟩ | ⟨off, len, rfl⟩)
  · exact h.1
  · exact h.1

theorem opOK_local {op : Op} {u : Upd} (hok : OpOK P T M id op u) (hS : SatS w0 ρ T' M' N a w) (hT : ∀ x ∈ op.operands.toList, ev T' x = ev T x)
    (hM : 1 ≤ cls op → ∀ k e, M k = some e → (M' k).isSome = true → M' k = some e) (h3 : cls op ≠ 3) : OpOK P T' M' id op u := by
  have fin : opEff P T' M' id op = opEff P T M id op → (∀ f args, opEff P T M id op ≠ .call f args) → OpOK P T' M' id op u := by
    intro he hc
    unfold OpOK at hok ⊢
    rw [he]
    split at hok
    · exact hok
    · exact hok
    · exact hok
    · rename_i f args h; exact absurd h (hc f args)
  have hnc : (∀ c, op ≠ .call c) → ∀ f args, opEff P T M id op ≠ .call f args := by
    intro hn f args he
    obtain ⟨c, rfl, _⟩ := call_spec he
    exact hn c rfl
  cases op with
  | call c =>
    cases hcal : c.callee with
    | builtin b =>
      cases b with
      | append => exact absurd (by simp [cls, hcal]) h3
      | len =>
        refine fin ?_ (fun f args he => ?_)
        · have hp := pureOp_congr (P := P) hT
          have ha : ∀ x ∈ c.args.toList, ev T' x = ev T x := by
            intro x hx
            refine hT x ?_
            simp only [Op.operands, Go.Call.operands, hcal]
            simpa using hx
          simp only [opEff, hcal]
          split
          · rename_i x ty hxs htys
            rw [ha x (by rw [hxs]; simp), hp]
          · rfl
        · obtain ⟨c', hc', hcal', _⟩ := call_spec he
          cases hc'
          rw [hcal] at hcal'; cases hcal'
      | _ =>
        refine fin ?_ (fun f args he => ?_)
        · simp only [opEff, hcal, pureOp_congr (P := P) hT]
        · obtain ⟨c', hc', hcal', _⟩ := call_spec he
          cases hc'
          rw [hcal] at hcal'; cases hcal'
    | invoke r m =>
      refine fin ?_ (fun f args he => ?_)
      · simp only [opEff, hcal, pureOp_congr (P := P) hT]
      · obtain ⟨c', hc', hcal', _⟩ := call_spec he
        cases hc'
        rw [hcal] at hcal'; cases hcal'
    | value f =>
      cases f with
      | func f =>
        have ha : ∀ x ∈ c.args.toList, ev T' x = ev T x := by
          intro x hx
          refine hT x ?_
          simp only [Op.operands, Go.Call.operands, hcal]
          simp [hx]
        have hmap : c.args.toList.map (ev T') = c.args.toList.map (ev T) := List.map_congr_left ha
        unfold OpOK at hok ⊢
        simp only [opEff, hcal] at hok ⊢
        obtain ⟨as, rs, h1, h2, h3', h4, h5⟩ := hok
        rw [hmap]
        refine ⟨as, rs, h1, argsMatch_local h2 (hM (by simp [cls, hcal])) ?_, h3', h4, h5⟩
        intro x hx k hk
        obtain ⟨y, hy, rfl⟩ := List.mem_map.1 hx
        have hd := hS.eval y
        rw [ha y hy] at hd
        exact live_of_den hd k hk
      | _ =>
        refine fin ?_ (fun f args he => ?_)
        · simp only [opEff, hcal, pureOp_congr (P := P) hT]
        · obtain ⟨c', hc', hcal', _⟩ := call_spec he
          cases hc'
          rw [hcal] at hcal'; cases hcal'
  | load ty x =>
    refine fin ?_ (hnc (by intro c; simp))
    have hx := hT x (by simp [Op.operands])
    have hd := hS.eval x
    unfold OpOK at hok
    simp only [opEff] at hok ⊢
    rw [hx]
    cases hxv : ev T x with
    | o a0 =>
      cases a0 with
      | p k off =>
        rw [hx, hxv] at hd
        simp only [hxv] at hok ⊢
        unfold loadEff at hok ⊢
        cases hMk : M k with
        | none => simp [hMk] at hok
        | some e => rw [hM (by simp [cls]) k e hMk hd.1]
      | _ => rfl
    | t l => rfl
  | store ty x y =>
    refine fin ?_ (hnc (by intro c; simp))
    have hx := hT x (by simp [Op.operands])
    have hy := hT y (by simp [Op.operands])
    have hd := hS.eval x
    unfold OpOK at hok
    simp only [opEff] at hok ⊢
    rw [hx, hy]
    cases hxv : ev T x with
    | o a0 =>
      cases a0 with
      | p k off =>
        rw [hx, hxv] at hd
        cases hyv : ev T y with
        | o b0 =>
          cases b0 with
          | v z =>
            simp only [hxv, hyv] at hok ⊢
            unfold storeEff at hok ⊢
            cases hMk : M k with
            | none => simp [hMk] at hok
            | some e => rw [hM (by simp [cls]) k e hMk hd.1]
          | _ => rfl
        | t l => rfl
      | _ => rfl
    | t l => rfl
  | buildSlice t len parts =>
    refine fin ?_ (hnc (by intro c; simp))
    simp only [opEff]
    rw [plains_congr (T := T) (T' := T') (by intro x hx; exact hT x (by simpa [Op.operands] using hx))]
  | slice ty x lo hi mx =>
    refine fin ?_ (hnc (by intro c; simp))
    have hx := hT x (by simp [Op.operands])
    have h1 : lo.map (ev T') = lo.map (ev T) := by cases lo with | none => rfl | some l => simp [hT l (by simp [Op.operands])]
    have h2 : hi.map (ev T') = hi.map (ev T) := by cases hi with | none => rfl | some l => simp [hT l (by simp [Op.operands])]
    have h3 : mx.map (ev T') = mx.map (ev T) := by cases mx with | none => rfl | some l => simp [hT l (by simp [Op.operands])]
    simp only [opEff, hx, h1, h2, h3]
  | binOp bop ty x y ty' =>
    refine fin ?_ (hnc (by intro c; simp))
    simp only [opEff, binOn, hT x (by simp [Op.operands]), hT y (by simp [Op.operands]), pureOp_congr (P := P) hT]
  | convert src dst x =>
    refine fin ?_ (hnc (by intro c; simp))
    simp only [opEff, hT x (by simp [Op.operands]), pureOp_congr (P := P) hT]
  | build t parts => exact fin (by simp only [opEff, pureOp_congr (P := P) hT]) (hnc (by intro c; simp))
  | index t x i => exact fin (by simp only [opEff, pureOp_congr (P := P) hT]) (hnc (by intro c; simp))
  | field t x f => exact fin (by simp only [opEff, pureOp_congr (P := P) hT]) (hnc (by intro c; simp))
  | move x => exact fin (by simp only [opEff, hT x (by simp [Op.operands])]) (hnc (by intro c; simp))
  | assign x => exact fin (by simp only [opEff, hT x (by simp [Op.operands])]) (hnc (by intro c; simp))
  | pick x y z => exact fin (by simp only [opEff, hT x (by simp [Op.operands]), hT y (by simp [Op.operands]), hT z (by simp [Op.operands])]) (hnc (by intro c; simp))
  | alloc e => exact fin (by simp only [opEff]) (hnc (by intro c; simp))
  | box e x => exact fin (by simp only [opEff, hT x (by simp [Op.operands])]) (hnc (by intro c; simp))
  | makeSlice t x y => exact fin (by simp only [opEff, hT x (by simp [Op.operands]), hT y (by simp [Op.operands])]) (hnc (by intro c; simp))
  | indexAddr t x y => exact fin (by simp only [opEff, hT x (by simp [Op.operands]), hT y (by simp [Op.operands])]) (hnc (by intro c; simp))
  | fieldAddr t x f => exact fin (by simp only [opEff, hT x (by simp [Op.operands])]) (hnc (by intro c; simp))
  | sliceToArrayPointer t x => exact fin (by simp only [opEff, hT x (by simp [Op.operands])]) (hnc (by intro c; simp))
  | extract x i => exact fin (by simp only [opEff, hT x (by simp [Op.operands])]) (hnc (by intro c; simp))
  | unOp uop ty x => exact fin (by simp only [opEff, hT x (by simp [Op.operands])]) (hnc (by intro c; simp))
  | _ => unfold OpOK at hok; simp only [opEff] at hok

/-- What an operation touches, by its class. -/
theorem opOK_cls {op : Op} {u : Upd} (hok : OpOK P T M id op u) : (cls op = 0 → u.cr = [] ∧ u.wr = []) := by
  intro hc
  unfold OpOK at hok
  split at hok
  · exact hok.elim
  · rename_i c u' he
    obtain ⟨_, rfl⟩ := hok
    cases op <;> simp only [cls] at hc <;> try (cases hc; done)
    all_goals simp only [opEff, binOn] at he <;> try (repeat' split at he)
    all_goals first
      | (cases he; done)
      | (simp only [Eff.ok.injEq] at he; obtain ⟨_, rfl⟩ := he; exact ⟨rfl, rfl⟩)
      | ((unfold sliceEff at he; repeat' split at he) <;> first | (cases he; done) | (simp only [Eff.ok.injEq] at he; obtain ⟨_, rfl⟩ := he; exact ⟨rfl, rfl⟩))
      | ((unfold binEff at he; repeat' split at he) <;> first | (cases he; done) | (simp only [Eff.ok.injEq] at he; obtain ⟨_, rfl⟩ := he; exact ⟨rfl, rfl⟩))
      | (simp_all; done)
  · obtain ⟨z, _, rfl⟩ := hok; exact ⟨rfl, rfl⟩
  · rename_i f args he
    obtain ⟨c, rfl, hcal, _⟩ := call_spec he
    simp [cls, hcal] at hc
end
end Go.Sx
