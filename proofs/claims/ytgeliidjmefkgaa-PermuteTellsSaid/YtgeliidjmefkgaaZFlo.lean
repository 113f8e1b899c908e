/-
  A region that draws its order, gone through by a schedule: what yields the same whenever it runs is taken first. No conditions.
-/
import Derived.Test.YtgeliidjmefkgaaZMachC
import Derived.OrdersIn
namespace Go.Sx
section
variable {P : Program} {Q : St → Prop} {F : Fence} {n : Nat} {ops : Array Oper} {E : Exit → Act → World → Prop}
/-- All orders from here, while H holds. -/
def wpC (F : Fence) (n : Nat) (P : Program) (ops : Array Oper) (E : Exit → Act → World → Prop) (H : World → Prop) : Nat → Array Bool → Act → World → Prop
  | 0, listed, a, w => H w ∧ Region.ready .any ops listed = [] ∧ E .normal a w
  | fuel + 1, listed, a, w => H w ∧ (Region.ready .any ops listed = [] → E .normal a w) ∧
      ∀ i ∈ Region.ready .any ops listed, wpOpIn F n P ops E i (wpC F n P ops E H fuel (listed.setIfInBounds i true)) a w
theorem wpC_any {H : World → Prop} : ∀ (fuel : Nat) (listed : Array Bool) (a : Act) (w : World), wpC F n P ops E H fuel listed a w → wpAnyIn F n P .any ops E fuel listed a w
  | 0, _, _, _, h => h.2
  | fuel + 1, _, _, _, h => ⟨h.2.1, fun i hi => wpOpIn_mono (fun a w h => wpC_any fuel _ a w h) (h.2.2 i hi)⟩
theorem wpC_weak {H H' : World → Prop} (hH : ∀ w, H w → H' w) : ∀ (fuel : Nat) (listed : Array Bool) (a : Act) (w : World), wpC F n P ops E H fuel listed a w → wpC F n P ops E H' fuel listed a w
  | 0, _, _, _, h => ⟨hH _ h.1, h.2⟩
  | fuel + 1, _, _, _, h => ⟨hH _ h.1, h.2.1, fun i hi => wpOpIn_mono (fun a w h => wpC_weak hH fuel _ a w h) (h.2.2 i hi)⟩
theorem putC {j : Nat} {oi oj : Oper} {v : Value} (hj : ops[j]? = some oj) (hap : oi.apart ops oj = true)
    (hsi : ∀ cs b, oi.op ≠ .select cs b) (hsj : ∀ cs b, oj.op ≠ .select cs b) (hdj : ∀ c, oj.op ≠ .defer c)
    (hE : ∀ c a w, E (.panic c) (a.put oi.dst v) w → E (.panic c) a w) {K : Act → World → Prop} {a : Act} {w : World}
    (h : wpOpIn F n P ops E j K (a.put oi.dst v) w) :
    wpOpIn F n P ops E j (fun a' w' => execOp a'.eval oi = execOp a.eval oi ∧ K (a'.put oi.dst v) w') a w := by
  obtain ⟨h1, h2, h3⟩ := Oper.apart_spec hap
  have keep : ∀ u, execOp (a.put oj.dst u).eval oi = execOp a.eval oi := fun u => execOp_put oi hsi a oj.dst u h3
  have keepD : ∀ d u, execOp (({ a with defers := d :: a.defers } : Act).put oj.dst u).eval oi = execOp a.eval oi := fun d u => execOp_put oi hsi { a with defers := d :: a.defers } oj.dst u h3
  unfold wpOpIn at *
  simp only [hj] at *
  rw [wanted_put oj a oi.dst v h1, about_put oj w a oi.dst v h1] at h
  split
  · rename_i hw
    simp only [hw, if_true] at h
    unfold Oper.wpIn at *
    rw [about_put oj w a oi.dst v h1] at h
    refine ⟨h.1, ?_⟩
    have h := h.2
    rw [Oper.semAt_eq _ _ _ hdj, execOp_put oj hsj a oi.dst v h1] at h
    rw [Oper.semAt_eq _ _ _ hdj]
    generalize (execOp a.eval oj).run P w = r at *
    cases r with
    | ok x w' =>
      cases x <;> simp only [Oper.uponIn] at h ⊢
      case value u => exact ⟨keep u, by rw [← Act.put_comm a v u h2]; exact h⟩
      case skip => exact ⟨keep _, by rw [← Act.put_comm a v undef h2]; exact h⟩
      case defer d =>
        refine ⟨keepD d _, ?_⟩
        rw [← Act.put_comm _ v undef h2, ← Act.put_defers]
        exact h
      case enter f args =>
        refine ⟨h.1, CallsIn.mono h.2 fun e w'' he => ?_⟩
        cases e with
        | returned u => exact ⟨keep u, by rw [← Act.put_comm a v u h2]; exact he⟩
        | panicked c => exact hE _ _ _ he
        | outgrown => exact he
      case row row args => exact ⟨h.1, RowsIn.mono h.2 fun u w'' he => ⟨keep u, by rw [← Act.put_comm a v u h2]; exact he⟩⟩
      case round l f tmps assign body =>
        refine ⟨h.1, RoundIn.mono h.2 fun e w'' he => ?_⟩
        cases e with
        | returned u => exact ⟨keep u, by rw [← Act.put_comm a v u h2]; exact he⟩
        | panicked c => exact hE _ _ _ he
        | outgrown => exact he
    | halt x w' =>
      cases x <;> simp only [Oper.uponIn] at h ⊢
      case panic u => exact hE _ _ _ h
  · rename_i hw
    simp only [hw] at h
    exact ⟨h.1, keep _, by rw [← Act.put_comm a v undef h2]; exact h.2⟩
/-- A run that yields a value. -/
theorem runC {i : Nat} {oi : Oper} {v : Value} {K : Act → World → Prop} {a : Act} {w : World} (hi : ops[i]? = some oi) (hgi : oi.guard = none) (hdi : ∀ c, oi.op ≠ .defer c) (hab : ∀ ρ w, oi.about P w ρ = none)
    (hrun : (execOp a.eval oi).run P w = .ok (.value v) w) (h : K (a.put oi.dst v) w) : wpOpIn F n P ops E i K a w := by
  unfold wpOpIn
  simp only [hi]
  have hw : Region.wanted oi (yielded ops a.tmps) = true := by simp [Region.wanted, hgi]
  rw [if_pos hw]
  unfold Oper.wpIn
  refine ⟨fun f hf => (by rw [hab] at hf; cases hf), ?_⟩
  rw [Oper.semAt_eq _ _ _ hdi, hrun]
  exact h
theorem wpC_first {i : Nat} {oi : Oper} {v : Value} {H Hi : World → Prop} (hi : ops[i]? = some oi) (hsel : ∀ (j : Nat) (o : Oper) cs b, ops[j]? = some o → o.op ≠ .select cs b) (hdef : ∀ (j : Nat) (o : Oper) c, ops[j]? = some o → o.op ≠ .defer c)
    (hE : ∀ c a w, E (.panic c) (a.put oi.dst v) w → E (.panic c) a w) (hgi : oi.guard = none) (hab : ∀ ρ w, oi.about P w ρ = none) :
    ∀ (fuel : Nat) (listed : Array Bool) (a : Act) (w : World),
      (∀ j oj, ops[j]? = some oj → j ≠ i → listed.getD j true = false → (∀ e ∈ oj.after, Region.binds .any e = true → e.on ≠ i) → oi.apart ops oj = true) →
      i ∈ Region.ready .any ops listed → (∀ w, Hi w → (execOp a.eval oi).run P w = .ok (.value v) w) →
      wpC F n P ops E (fun w => H w ∧ Hi w) fuel (listed.setIfInBounds i true) (a.put oi.dst v) w → wpC F n P ops E H (fuel + 1) listed a w := by
  intro fuel
  induction fuel with
  | zero =>
    intro listed a w _ hr hy X
    refine ⟨X.1.1, fun h => (by rw [h] at hr; cases hr), fun j hj => ?_⟩
    by_cases hji : j = i
    · subst hji
      exact runC hi hgi (fun c => hdef j oi c hi) hab (hy w X.1.2) (wpC_weak (fun _ h => h.1) 0 _ _ _ X)
    · have := ready_mono hj hji
      rw [X.2.1] at this
      cases this
  | succ fuel ih =>
    intro listed a w hfree hr hy X
    refine ⟨X.1.1, fun h => (by rw [h] at hr; cases hr), fun j hj => ?_⟩
    by_cases hji : j = i
    · subst hji
      exact runC hi hgi (fun c => hdef j oi c hi) hab (hy w X.1.2) (wpC_weak (fun _ h => h.1) _ _ _ _ X)
    · have h1 := X.2.2 j (ready_mono hj hji)
      obtain ⟨hjun, oj, hoj, hall⟩ := mem_ready.1 hj
      have hnot : ∀ e ∈ oj.after, Region.binds .any e = true → e.on ≠ i := fun e he hb heq => by
        have h1 := hall e he hb
        have h0 := (mem_ready.1 hr).1
        rw [heq] at h1
        rcases Nat.lt_or_ge i listed.size with h' | h'
        · simp [h'] at h0 h1; rw [h0] at h1; cases h1
        · simp [Array.getElem?_eq_none h'] at h1
      have h2 := putC hoj (hfree j oj hoj hji hjun hnot) (fun cs b => hsel i oi cs b hi) (fun cs b => hsel j oj cs b hoj) (fun c => hdef j oj c hoj) hE h1
      have hfree' : ∀ k ok, ops[k]? = some ok → k ≠ i → (listed.setIfInBounds j true).getD k true = false →
          (∀ e ∈ ok.after, Region.binds .any e = true → e.on ≠ i) → oi.apart ops ok = true := fun k ok hk hki hun hno => by
        refine hfree k ok hk hki ?_ hno
        by_cases hjk : j = k
        · subst hjk; exact hjun
        · rw [getD_set_ne true hjk] at hun; exact hun
      refine wpOpIn_mono (fun a' w' h3 => ih (listed.setIfInBounds j true) a' w' hfree' (ready_mono hr (Ne.symm hji)) (by rw [h3.1]; exact hy) ?_) h2
      rw [Array.setIfInBounds_comm _ _ hji]
      exact h3.2
/-- What an operation leaves is the act with its slot put. -/
theorem wpIn_shape {o : Oper} {a : Act} {w : World} {K : Act → World → Prop} (hd : ∀ c, o.op ≠ .defer c) (h : o.wpIn F n P a w K E) : o.wpIn F n P a w (fun b w1 => K b w1 ∧ ((∃ y, b = a.put o.dst y) ∨ ∃ d y, b = ({ a with defers := d :: a.defers } : Act).put o.dst y)) E := by
  unfold Oper.wpIn at *
  refine ⟨h.1, ?_⟩
  have h := h.2
  rw [Oper.semAt_eq _ _ _ hd] at h ⊢
  generalize (execOp a.eval o).run P w = r at h ⊢
  cases r with
  | ok x w' =>
    cases x <;> simp only [Oper.uponIn] at h ⊢
    case value u => exact ⟨h, .inl ⟨_, rfl⟩⟩
    case skip => exact ⟨h, .inl ⟨_, rfl⟩⟩
    case defer d => exact ⟨h, .inr ⟨_, _, rfl⟩⟩
    case enter f args =>
      refine ⟨h.1, CallsIn.mono h.2 fun e w'' he => ?_⟩
      cases e with
      | returned u => exact ⟨he, .inl ⟨_, rfl⟩⟩
      | panicked c => exact he
      | outgrown => exact he
    case row row args => exact ⟨h.1, RowsIn.mono h.2 fun u w'' he => ⟨he, .inl ⟨_, rfl⟩⟩⟩
    case round l f tmps assign body =>
      refine ⟨h.1, RoundIn.mono h.2 fun e w'' he => ?_⟩
      cases e with
      | returned u => exact ⟨he, .inl ⟨_, rfl⟩⟩
      | panicked c => exact he
      | outgrown => exact he
  | halt x w' => cases x <;> simp only [Oper.uponIn] at h ⊢ <;> exact h
/-! ### one operation in the text's order -/
theorem op_one {all : List Oper} {k : List Frm} {o : Oper} {K : St → Prop} {st : St} {g : Base} {ρ : Nat → Loc} {a : Act} {w : World} (r : Option Nat) (hg : o.guard = none) {E : Exit → Act → World → Prop} : ∀ (m : Nat), vcs P Q m (.ops .plain all [o] :: .stop K :: k) st → SatN g ρ st a w →
    o.wpIn (FW r) 0 P a w (fun b w1 => ∃ ρ1 st1, SatN g ρ1 st1 b w1 ∧ K st1) E
  | 0, h, _ => h.elim
  | m + 1, h, hs => by
    have fin : ∀ {m : Nat} {st' : St}, vcs P Q m (.ops .plain all [] :: .stop K :: k) st' → K st' := by
      intro m st' h
      cases m with
      | zero => exact h.elim
      | succ m =>
        cases m with
        | zero => exact h.elim
        | succ m => exact h
    rcases vcs_op h with ⟨hr, u, hok, hv, _⟩ | ⟨hr, hv⟩ | ⟨hr, _, hraw⟩
    · obtain ⟨w0, hx, hs⟩ := hs
      refine oper_in r (opOK_nodefer hok) ?_
      refine op_sound hs.1 (out_of hs.2) rfl hok ?_
      intro y w' ρ' h1 h2 h3 h4
      exact ⟨ρ', _, ⟨w0, hx, hs.put (fun k hk => h1 k (.inl hk)) (fun k e he => (opOK_ids hok k e he).2) h2 h3 h4⟩, fin hv⟩
    · obtain ⟨j, want, s, h1, _⟩ := hr
      rw [hg] at h1; cases h1
    · exact hraw o rfl rfl r g ρ a w _ _ hs (fun ρ' st' a' w' hs' hv => ⟨ρ', st', hs', fin hv⟩)
def isTake : Op → Bool
  | .move _ => true
  | .assign _ => true
  | .extract _ _ => true
  | _ => false
theorem take_run {all rest : List Oper} {k : List Frm} {o : Oper} {st : St} {g : Base} {ρ : Nat → Loc} {a : Act} {w : World} (ht : isTake o.op = true) (hg : o.guard = none) : ∀ (m : Nat), vcs P Q m (.ops .plain all (o :: rest) :: k) st → SatN g ρ st a w → ∃ v, ∀ w', (execOp a.eval o).run P w' = .ok (.value v) w'
  | 0, h, _ => h.elim
  | m + 1, h, hs => by
    obtain ⟨d, op, ty, pos, after, gd⟩ := o
    have hg : gd = none := hg
    subst hg
    cases op with
    | move x => exact ⟨a.eval x, fun w' => by simp [execOp]⟩
    | assign x => exact ⟨a.eval x, fun w' => by simp [execOp]⟩
    | extract x i =>
      simp only [vcs, opVC, opEff] at h
      obtain ⟨w0, hx, hs, _⟩ := hs
      have hv := hs.eval x
      cases hxv : ev st.T x with
      | o b => rw [hxv] at h; exact h.elim
      | t l =>
        rw [hxv] at h hv
        obtain ⟨ys, hy, hl⟩ := hv
        obtain ⟨y, hyi, _⟩ := denL_getD i hl h.1
        exact ⟨y, fun w' => by simp [execOp, hy, Instr.extract, hyi]⟩
    | _ => cases ht
/-! ### loads -/
def ldOK (P : Program) (st : St) (z : Value) : Op → Prop
  | .load ty x => match opEff P st.T st.m.get st.n (.load ty x) with
    | .ok c u => c ∧ u.r = .o (.v z)
    | _ => False
  | _ => False
def ldsOK (P : Program) (st : St) : List (Oper × Value) → Prop
  | [] => True
  | (o, z) :: tk => ldOK P st z o.op ∧ ldsOK P st tk
theorem ld_run {o : Oper} {z : Value} {st : St} {g : Base} {ρ : Nat → Loc} {a : Act} {w : World} (h : ldOK P st z o.op) (hs : SatN g ρ st a w) : (execOp a.eval o).run P w = .ok (.value z) w := by
  obtain ⟨d, op, ty0, pos, after, gd⟩ := o
  cases op with
  | load ty x =>
    obtain ⟨w0, _, h0, _⟩ := hs
    simp only [ldOK, opEff] at h
    have hv := h0.eval x
    cases hx : ev st.T x with
    | t l => simp only [hx] at h
    | o b =>
      cases b with
      | p k off =>
        rw [hx] at hv
        obtain ⟨_, hv⟩ := hv
        simp only [hx] at h
        unfold loadEff at h
        split at h
        · rename_i c u he
          split at he
          · rename_i e sz gg hM hsz hg
            have hs := h0.mem.ent k e hM
            split at he
            · rename_i cs hcs
              have hone := hs.one hcs
              cases gg with
              | true =>
                simp only [Eff.ok.injEq] at he
                obtain ⟨rfl, rfl⟩ := he
                obtain ⟨⟨hf, hp⟩, hz⟩ := h
                simp only [val, AV.o.injEq, A0.v.injEq] at hz
                subst hz
                have hr := hs.reads hcs (by intro e0; subst e0; simp at hf; omega)
                have hlen : ((cs.drop off).take sz).length = sz := by simp; omega
                have hl := run_loadCells_list (P := P) w (((ρ k).a).add off) ((cs.drop off).take sz) (fun j v hj => by
                  rw [addr_add_add]
                  refine hr (off + j) v ?_
                  rw [List.getElem?_take] at hj
                  split at hj
                  · rwa [List.getElem?_drop] at hj
                  · cases hj)
                rw [hlen] at hl
                simp [execOp, hv, Instr.loadAt, Instr.sureAddr, loadVar, run_isAgg' hg, run_sizeOf' hsz, hl]
              | false =>
                simp only [Eff.ok.injEq] at he
                obtain ⟨rfl, rfl⟩ := he
                obtain ⟨hc, hz⟩ := h
                simp only [val, AV.o.injEq, A0.v.injEq] at hz
                subst hz
                have hr := hs.reads hcs (by intro e0; subst e0; simp at hc)
                have hcell := hr off (cs.getD off undef) (by simp [List.getD, List.getElem?_eq_getElem hc])
                simp only [execOp, hv, Instr.loadAt, Instr.sureAddr, loadVar, Sem.run_bind, Sem.run_pure, Result.andThen_ok, run_isAgg' hg]
                simp [hcell]
            · unfold hdrLoad at he
              split at he
              · rename_i cs hce
                simp only [Eff.ok.injEq] at he
                obtain ⟨rfl, rfl⟩ := he
                obtain ⟨hc, hz⟩ := h
                simp only [AV.o.injEq] at hz
                obtain ⟨y, hcell, _, hd⟩ := h0.mem.hdr k cs hM off (cs.getD off .any) (by simp [List.getD, List.getElem?_eq_getElem hc])
                rw [hz] at hd
                have hd : y = z := hd
                subst hd
                simp only [execOp, hv, Instr.loadAt, Instr.sureAddr, loadVar, Sem.run_bind, Sem.run_pure, Result.andThen_ok, run_isAgg' hg]
                simp [hcell]
              · cases he
          · cases he
        · exact h.elim
      | _ => simp only [hx] at h
  | _ => exact h.elim
/-! ### the schedule -/
def addTk (o : Oper) (tk : List (Oper × Value)) : Option Value → List (Oper × Value)
  | some z => (o, z) :: tk
  | none => tk
def SchedD (P : Program) (Q : St → Prop) (n : Nat) (all : List Oper) (k : List Frm) : List (Nat × Oper × Option Value) → List (Oper × Value) → St → Prop
  | [], tk, st => ldsOK P st tk ∧ vcx P Q n k st
  | (_, o, z) :: s, tk, st => ldsOK P st (addTk o tk z) ∧ vcx P Q 1000 (.ops .plain all [o] :: .stop (fun st' => SchedD P Q n all k s (addTk o tk z) st') :: k) st
def isLd (all : Array Oper) : Op → Bool
  | .load _ (.tmp x) => all.all fun o => o.dst != some x
  | _ => false
def schB (all : Array Oper) : List (Nat × Oper × Option Value) → Array Bool → Bool
  | [], listed => (Region.ready .any all listed).isEmpty
  | (i, _, z) :: s, listed => (match all[i]? with
      | some o => match z with
        | some _ => isLd all o.op && Region.free .any all listed i && (Region.ready .any all listed).contains i
        | none => (isTake o.op && Region.free .any all listed i && (Region.ready .any all listed).contains i) || Region.ready .any all listed == [i]
      | none => false) && schB all s (listed.setIfInBounds i true)
def plainAll (all : Array Oper) : Bool := all.all fun o => o.guard.isNone && (match o.op with | .select .. => false | .defer _ => false | _ => true)
/-- What was loaded ahead is there still. -/
def HL (P : Program) (e0 : Operand → Value) : List (Oper × Value) → World → Prop
  | [], _ => True
  | p :: tk, w => HL P e0 tk w ∧ (execOp e0 p.1).run P w = .ok (.value p.2) w
def evKeep (all : Array Oper) (e0 e : Operand → Value) : Prop := ∀ o : Oper, isLd all o.op = true → execOp e o = execOp e0 o
theorem isLd_no {all : Array Oper} {op : Op} (h : isLd all op = true) : ∃ ty x, op = .load ty (.tmp x) ∧ ∀ o ∈ all, o.dst ≠ some x := by
  unfold isLd at h
  split at h
  · rename_i ty x
    refine ⟨ty, x, rfl, fun o ho => ?_⟩
    rw [Array.all_eq_true_iff_forall_mem] at h
    simpa using h o ho
  · cases h
theorem evKeep.put {all : Array Oper} {e0 : Operand → Value} {a : Act} (h : evKeep all e0 a.eval) {o : Oper} (ho : o ∈ all) (y : Value) : evKeep all e0 (a.put o.dst y).eval := by
  intro p hp
  rw [← h p hp]
  obtain ⟨ty, x, hop, hx⟩ := isLd_no hp
  refine execOp_congr p (by rw [hop]; intro _ _ h; cases h) fun z hz => Act.eval_put fun d hd hzd => ?_
  rw [hop] at hz
  simp [Op.operands] at hz
  subst hz
  cases hzd
  exact hx o ho hd
theorem evKeep.defer {all : Array Oper} {e0 : Operand → Value} {a : Act} (h : evKeep all e0 a.eval) (d : Deferred) : evKeep all e0 ({ a with defers := d :: a.defers } : Act).eval := h
theorem HL_of {all : Array Oper} {e0 : Operand → Value} {st : St} {g : Base} {ρ : Nat → Loc} {a : Act} {w : World} (hs : SatN g ρ st a w) (he : evKeep all e0 a.eval) : ∀ {tk : List (Oper × Value)}, (∀ p ∈ tk, isLd all p.1.op = true) → ldsOK P st tk → HL P e0 tk w
  | [], _, _ => trivial
  | p :: tk, ht, h => ⟨HL_of hs he (fun q hq => ht q (by simp [hq])) h.2, by rw [← he p.1 (ht p (by simp))]; exact ld_run h.1 hs⟩
theorem about_no {o : Oper} (h : isTake o.op = true ∨ ∃ all, isLd all o.op = true) : ∀ ρ w, o.about P w ρ = none := by
  intro ρ w
  obtain ⟨d, op, ty, pos, after, gd⟩ := o
  cases op <;> first | rfl | (rcases h with h | ⟨_, h⟩ <;> cases h)
theorem take_value {o : Oper} {a : Act} {w : World} {r : Option Nat} {v : Value} {K : Act → World → Prop} {E : Exit → Act → World → Prop} (hd : ∀ c, o.op ≠ .defer c) (hrun : (execOp a.eval o).run P w = .ok (.value v) w) (h : o.wpIn (FW r) 0 P a w K E) : K (a.put o.dst v) w := by
  unfold Oper.wpIn at h
  have h := h.2
  rw [Oper.semAt_eq _ _ _ hd, hrun] at h
  exact h
theorem sched_sound {all : List Oper} {k : List Frm} {n : Nat} {g : Base} {r : Option Nat} (hm : P.follows .mixedOrders = true) (hk : noOps k) (hall : plainAll all.toArray = true) (e0 : Operand → Value) :
    ∀ (ss : List (Nat × Oper × Option Value)) (tk : List (Oper × Value)) (listed : Array Bool) (st : St) (ρ : Nat → Loc) (a : Act) (w : World), (∀ p ∈ ss, all[p.1]? = some p.2.1) → schB all.toArray ss listed = true → (∀ p ∈ tk, isLd all.toArray p.1.op = true) →
      SchedD P Q n all k ss tk st → SatN g ρ st a w → evKeep all.toArray e0 a.eval → wpC (FW r) 0 P all.toArray (PostS P Q g k) (HL P e0 tk) ss.length listed a w
  | [], tk, listed, st, ρ, a, w, _, hb, ht, h, hs, he => by
    refine ⟨HL_of hs he ht h.1, by simpa [schB] using hb, ρ, st, hs, ?_⟩
    exact vcs_sound hm n k st hk (by rw [← vcx_eq]; exact h.2)
  | (i, o, z) :: ss, tk, listed, st, ρ, a, w, hss, hb, ht, h, hs, he => by
    have hi0 : all[i]? = some o := hss (i, o, z) (by simp)
    have hi : all.toArray[i]? = some o := by simpa using hi0
    have ho : o ∈ all.toArray := Array.mem_of_getElem? hi
    have hpl : ∀ (j : Nat) (o : Oper), all.toArray[j]? = some o → o.guard = none ∧ (∀ cs b, o.op ≠ .select cs b) ∧ ∀ c, o.op ≠ .defer c := by
      intro j o hj
      have := (Array.all_eq_true_iff_forall_mem.1 hall) o (Array.mem_of_getElem? hj)
      simp only [Bool.and_eq_true, Option.isNone_iff_eq_none] at this
      refine ⟨this.1, fun cs b e => ?_, fun c e => ?_⟩
      · have h2 := this.2; rw [e] at h2; cases h2
      · have h2 := this.2; rw [e] at h2; cases h2
    obtain ⟨hg, hsel0, hdef0⟩ := hpl i o hi
    have hsel : ∀ (j : Nat) (o : Oper) cs b, all.toArray[j]? = some o → o.op ≠ .select cs b := fun j o cs b hj => (hpl j o hj).2.1 cs b
    have hdef : ∀ (j : Nat) (o : Oper) c, all.toArray[j]? = some o → o.op ≠ .defer c := fun j o c hj => (hpl j o hj).2.2 c
    have hE : ∀ (v : Value) c a w, PostS P Q g k (.panic c) (a.put o.dst v) w → PostS P Q g k (.panic c) a w := by
      rintro v c a w ⟨_, _, _, h⟩; exact h.elim
    have hss2 : ∀ p ∈ ss, all[p.1]? = some p.2.1 := fun p hp => hss p (by simp [hp])
    obtain ⟨hl, hv⟩ := h
    rw [vcx_eq] at hv
    simp only [schB, hi, Bool.and_eq_true] at hb
    obtain ⟨hb1, hb2⟩ := hb
    have hone := op_one (E := PostS P Q g k) r hg 1000 hv hs
    cases z with
    | some z =>
      simp only [Bool.and_eq_true] at hb1
      obtain ⟨⟨h1, h2⟩, h3⟩ := hb1
      have hrun := ld_run hl.1 hs
      obtain ⟨ρ1, st1, hs1, hn⟩ := take_value hdef0 hrun hone
      have ih := sched_sound (r := r) hm hk hall e0 ss ((o, z) :: tk) (listed.setIfInBounds i true) st1 ρ1 _ w hss2 hb2 (fun p hp => by
        rcases List.mem_cons.1 hp with rfl | hp
        · exact h1
        · exact ht p hp) hn hs1 (he.put ho z)
      exact wpC_first (H := HL P e0 tk) (Hi := fun w => (execOp e0 o).run P w = .ok (.value z) w) hi hsel hdef (hE z) hg (about_no (.inr ⟨_, h1⟩)) ss.length listed a w (Region.free_spec hi h2) (by simpa using h3) (fun w hw => by rw [he o h1]; exact hw) ih
    | none =>
      simp only [Bool.or_eq_true, Bool.and_eq_true, beq_iff_eq] at hb1
      rcases hb1 with ⟨⟨h1, h2⟩, h3⟩ | h1
      · obtain ⟨v, hrun⟩ := take_run h1 hg 1000 hv hs
        obtain ⟨ρ1, st1, hs1, hn⟩ := take_value hdef0 (hrun w) hone
        have ih := sched_sound (r := r) hm hk hall e0 ss tk (listed.setIfInBounds i true) st1 ρ1 _ w hss2 hb2 ht hn hs1 (he.put ho v)
        exact wpC_first (H := HL P e0 tk) (Hi := fun _ => True) hi hsel hdef (hE v) hg (about_no (.inl h1)) ss.length listed a w (Region.free_spec hi h2) (by simpa using h3) (fun w _ => hrun w) (wpC_weak (fun _ h => ⟨h, trivial⟩) _ _ _ _ ih)
      · refine ⟨HL_of hs he ht hl, fun h0 => (by rw [h0] at h1; cases h1), fun j hj => ?_⟩
        rw [h1] at hj
        have hj : j = i := by simpa using hj
        subst hj
        unfold wpOpIn
        simp only [hi]
        have hw : Region.wanted o (yielded all.toArray a.tmps) = true := by simp [Region.wanted, hg]
        rw [if_pos hw]
        refine Oper.wpIn_mono ?_ (wpIn_shape hdef0 hone)
        rintro b w1 ⟨⟨ρ1, st1, hs1, hn⟩, hb⟩
        refine sched_sound (r := r) hm hk hall e0 ss tk _ st1 ρ1 _ w1 hss2 hb2 ht hn hs1 ?_
        rcases hb with ⟨y, rfl⟩ | ⟨d, y, rfl⟩
        · exact he.put ho y
        · exact (he.defer d).put ho y
/-- The rule: a drawn region by a schedule. -/
noncomputable def SchedX (P : Program) (Q : St → Prop) (n : Nat) (all : List Oper) (k : List Frm) (ss : List (Nat × Oper × Option Value)) (tk : List (Oper × Value)) (st : St) : Prop := hid (@SchedD P Q n) all k ss tk st
theorem SchedX_eq {n all k ss tk st} : SchedX P Q n all k ss tk st = SchedD P Q n all k ss tk st := by unfold SchedX; rw [hid_eq]
theorem sx_nil {n all k tk st} : SchedX P Q n all k [] tk st = (ldsOK P st tk ∧ vcx P Q n k st) := by rw [SchedX_eq]; rfl
theorem sx_cons {n all k i o z ss tk st} : SchedX P Q n all k ((i, o, z) :: ss) tk st = (ldsOK P st (addTk o tk z) ∧ vcx P Q 1000 (.ops .plain all [o] :: .stop (fun st' => SchedX P Q n all k ss (addTk o tk z) st') :: k) st) := by
  rw [SchedX_eq]
  have : (fun st' => SchedX P Q n all k ss (addTk o tk z) st') = fun st' => SchedD P Q n all k ss (addTk o tk z) st' := funext fun _ => SchedX_eq
  rw [this]; rfl
@[congr] theorem SchedX_congr {n all k ss ss' tk tk'} {st st' : St} (h : st = st') (h2 : ss = ss') (h3 : tk = tk') : SchedX P Q n all k ss tk st = SchedX P Q n all k ss' tk' st' := by rw [h, h2, h3]
def undO : Oper := ⟨none, .move (.tmp 0), 0, "", #[], none⟩
def mkS (all : List Oper) (s : List (Nat × Option Value)) : List (Nat × Oper × Option Value) := s.map fun p => (p.1, (all[p.1]?).getD undO, p.2)
/-- The static look at a schedule: which are loads. -/
def schB1 (all : Array Oper) : List (Nat × Bool) → Array Bool → Bool
  | [], listed => (Region.ready .any all listed).isEmpty
  | (i, z) :: s, listed => (match all[i]? with
      | some o => if z then isLd all o.op && Region.free .any all listed i && (Region.ready .any all listed).contains i
        else (isTake o.op && Region.free .any all listed i && (Region.ready .any all listed).contains i) || Region.ready .any all listed == [i]
      | none => false) && schB1 all s (listed.setIfInBounds i true)
theorem schB_of {all : List Oper} : ∀ (s : List (Nat × Option Value)) (listed : Array Bool), schB1 all.toArray (s.map fun p => (p.1, p.2.isSome)) listed = true → schB all.toArray (mkS all s) listed = true ∧ ∀ p ∈ mkS all s, all[p.1]? = some p.2.1
  | [], listed, h => ⟨h, fun p hp => by cases hp⟩
  | (i, z) :: s, listed, h => by
    simp only [List.map_cons, schB1, Bool.and_eq_true] at h
    obtain ⟨h1, h2⟩ := h
    obtain ⟨i1, i2⟩ := schB_of s _ h2
    cases ho : all.toArray[i]? with
    | none => rw [ho] at h1; cases h1
    | some o =>
      have ho2 : all[i]? = some o := by simpa using ho
      rw [ho] at h1
      refine ⟨?_, fun p hp => ?_⟩
      · simp only [mkS, List.map_cons, schB, ho, Bool.and_eq_true]
        refine ⟨?_, i1⟩
        cases z with
        | none => simpa using h1
        | some z => simpa using h1
      · rcases List.mem_cons.1 hp with rfl | hp
        · simp [ho2]
        · exact i2 p hp
theorem DrawVC.sched {n : Nat} {all : List Oper} {k : List Frm} {st : St} {A : Prop} (s : List (Nat × Option Value)) (hm : P.follows .mixedOrders = true) (hk : noOps k)
    (hb : (plainAll all.toArray && schB1 all.toArray (s.map fun p => (p.1, p.2.isSome)) (Array.replicate all.toArray.size false) && s.length == all.toArray.size) = true) (h : SchedX P Q n all k (mkS all s) [] st) : DrawVC P Q n all k st A := by
  simp only [Bool.and_eq_true, beq_iff_eq] at hb
  obtain ⟨⟨hall, hb⟩, hl0⟩ := hb
  obtain ⟨hb, hss⟩ := schB_of s _ hb
  have hl : (mkS all s).length = all.toArray.size := by simpa [mkS] using hl0
  refine .raw fun j o ho => ?_
  rw [CodeX_eq]
  unfold CodeVC
  rw [SVX_code]
  intro r g ρ a w hs
  refine wpIn_region_any hm ?_
  have ho : o = all.toArray := by rw [← ho]
  rw [ho, ← hl]
  rw [SchedX_eq] at h
  refine wpC_any _ _ _ _ (wpC_weak (fun _ _ => trivial) _ _ _ _ (sched_sound (r := r) hm hk hall a.eval (mkS all s) [] _ st ρ a _ hss (by rw [hl]; exact hb) (fun p hp => by cases hp) h ?_ (fun _ _ => rfl)) : wpC _ _ _ _ _ (fun _ => True) _ _ _ _)
  obtain ⟨w0, hx, hs, hid⟩ := hs
  exact ⟨w0, hx, hs.drew, hid⟩
end
end Go.Sx
