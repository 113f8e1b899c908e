/-
  The machine's operations but calls: the program's operation does just what opEff says. No conditions.
-/
import Derived.Test.YtmgheellmllfpaaSxb
namespace Go.Sx

structure SatS (w0 : World) (ρ : Nat → Loc) (T : Nat → AV) (M : MemF) (N : Nat) (a : Act) (w : World) : Prop where
  below : RowKit.Below w0.heap.size w0 w
  mem : SatM w0.heap.size ρ M w
  slot : ∀ i, Den ρ M (T i) (a.tmps.getD i undef)
  size : a.tmps.size = N
  defers : a.defers = []

section
variable {P : Program} {w0 : World} {ρ : Nat → Loc} {T : Nat → AV} {M : MemF} {N : Nat} {a : Act} {w : World} {id : Nat} {o : Oper} {u : Upd}
  {K : Act → World → Prop} {Q : Exit → Act → World → Prop}

theorem SatS.eval (h : SatS w0 ρ T M N a w) (x : Operand) : Den ρ M (ev T x) (a.eval x) := by
  cases x with
  | tmp i => exact h.slot i
  | const v => exact rfl
  | global g => trivial
  | func f => trivial
theorem SatS.evv (h : SatS w0 ρ T M N a w) {x : Operand} {y : Value} (hx : ev T x = .o (.v y)) : a.eval x = y := by
  have := h.eval x
  rw [hx] at this
  exact this

/-- What is to be shown of the rest, once an operation has left y. -/
def Goes (w0 : World) (ρ : Nat → Loc) (M : MemF) (id : Nat) (u : Upd) (K : Value → World → Prop) : Prop :=
  ∀ y w' ρ', (∀ k, Out id k → ρ' k = ρ k) → SatM w0.heap.size ρ' (applyM M u) w' → RowKit.Below w0.heap.size w0 w' → Den ρ' (applyM M u) u.r y → K y w'

theorem pure_step (h : SatS w0 ρ T M N a w) {y : Value} (hrun : (execOp a.eval o).run P w = .ok (.value y) w) {r : AV} (hd : Den ρ M r y)
    (hK : Goes w0 ρ M id ⟨r, [], []⟩ fun y w' => K (a.put o.dst y) w') : o.wp P a w K Q := by
  unfold Oper.wp
  rw [hrun, Oper.upon_value]
  refine hK y w ρ (fun _ _ => rfl) ?_ h.below ?_
  · rw [applyM_nil]; exact h.mem
  · rw [applyM_nil]; exact hd

theorem SatM.add {B : Nat} (h : SatM B ρ M w) {w' : World} (f : Fr w w' fun _ => False) (hid : ∀ k, (M k).isSome = true → Out id k) (l : Loc) (e : Ent)
    (he : EntSat B l w' e) (hb : ∀ b, e.blk l = some b → w.heap.size ≤ b) (r : AV) :
    SatM B (fun k => if k = id then l else ρ k) (applyM M ⟨r, [(id, e)], []⟩) w' := by
  have key : ∀ k e', applyM M ⟨r, [(id, e)], []⟩ k = some e' → (k = id ∧ e' = e) ∨ (Out id k ∧ M k = some e') := by
    intro k e' hk
    simp only [applyM, Mem.get] at hk
    by_cases hki : k = id
    · simp [hki] at hk; exact .inl ⟨hki, hk.symm⟩
    · simp only [hki, if_false] at hk
      cases hM : M k with
      | none => simp [hM] at hk
      | some e0 => simp [hM] at hk; exact .inr ⟨hid k (by simp [hM]), by rw [hk]⟩
  constructor
  · intro k e' hk
    rcases key k e' hk with ⟨rfl, rfl⟩ | ⟨hlt, hM⟩
    · simpa using he
    · simp only [hlt.ne, if_false]
      exact (h.ent k e' hM).frame f (fun _ _ x => x)
  · intro k e1 k' e2 h1 ho h2 hne
    rcases key k e1 h1 with ⟨rfl, rfl⟩ | ⟨hlt, hM⟩
    · rcases key k' e2 h2 with ⟨rfl, rfl⟩ | ⟨hlt', hM'⟩
      · exact absurd rfl hne
      · simp only [if_true, hlt'.ne, if_false]
        cases hbk : e1.blk l with
        | none => exact .inl rfl
        | some b =>
          refine .inr fun hc => ?_
          have := (h.ent k' e2 hM').lt hc.symm
          have := hb b hbk
          omega
    · rcases key k' e2 h2 with ⟨rfl, rfl⟩ | ⟨hlt', hM'⟩
      · simp only [if_true, hlt.ne, if_false]
        cases hbk : e1.blk (ρ k) with
        | none => exact .inl rfl
        | some b =>
          refine .inr fun hc => ?_
          have := (h.ent k e1 hM).lt hbk
          have := hb b hc.symm
          omega
      · simp only [hlt.ne, hlt'.ne, if_false]
        exact h.apart k e1 k' e2 hM ho hM' hne

theorem applyM_new (M : MemF) (r : AV) (e : Ent) (wr : Mem) : ((applyM M ⟨r, [(id, e)], wr⟩) id).isSome = true := by simp [applyM, Mem.get]

theorem box_step (h : SatS w0 ρ T M N a w) (hid : ∀ k, (M k).isSome = true → Out id k) {cs : List Value} {ty : TypeId} (h1 : cs.all Value.oneCell' = true)
    (hrun : (execOp a.eval o).run P w = .ok (.value (.pointer (some ⟨w.heap.size, 0, none⟩))) (w.alloc (.cells cs.toArray ty)))
    (hK : Goes w0 ρ M id ⟨.o (.p id 0), [(id, .box cs)], []⟩ fun y w' => K (a.put o.dst y) w') : o.wp P a w K Q := by
  unfold Oper.wp
  rw [hrun, Oper.upon_value]
  have hsz := h.below.size
  refine hK _ _ (fun k => if k = id then ⟨⟨w.heap.size, 0, none⟩, undef⟩ else ρ k) (fun k hk => by simp [hk.ne]) ?_ ?_ ?_
  · refine h.mem.add (Fr.alloc w _ _) hid ⟨⟨w.heap.size, 0, none⟩, undef⟩ (.box cs) ⟨w.heap.size, ty, rfl, hsz, heap_alloc_new w _, by simpa using h1⟩ ?_ _
    intro b hb
    simp [Ent.blk] at hb
    omega
  · exact h.below.alloc hsz _
  · exact ⟨applyM_new M _ _ _, by simp [Addr.add]⟩

theorem den_row {B : Nat} {e size n : Nat} {xs : List Value} {y : Value} {l : Loc} {w : World} (hown : w.ownsRow B e size y n xs) (hv : l.v = y) (ha : ∀ g m c, y = .slice (some g) m c → l.a = g) :
    y = l.v ∧ ∃ o cap, y = .slice o n cap ∧ n ≤ cap ∧ (n = 0 ∨ o = some l.a) ∧ (o = none → cap = 0) := by
  refine ⟨hv.symm, ?_⟩
  rcases hown.2 with ⟨rfl, rfl⟩ | ⟨g, cap, cur, rfl, _, _, hnc, _⟩
  · exact ⟨none, 0, rfl, Nat.le_refl _, .inl rfl, fun _ => rfl⟩
  · exact ⟨_, cap, rfl, hnc, .inr (by rw [ha _ _ _ rfl]), by simp⟩

theorem row_step (h : SatS w0 ρ T M N a w) (hid : ∀ k, (M k).isSome = true → Out id k) {e size n : Nat} {xs : List Value} {y : Value} {w' : World} (h1 : xs.all Value.oneCell' = true)
    (hrun : (execOp a.eval o).run P w = .ok (.value y) w') (f : Fr w w' fun _ => False) (hown : w'.ownsRow w.heap.size e size y n xs)
    (hK : Goes w0 ρ M id ⟨.o (.r id n), [(id, .row e size n xs)], []⟩ fun y w' => K (a.put o.dst y) w') : o.wp P a w K Q := by
  unfold Oper.wp
  rw [hrun, Oper.upon_value]
  have hsz := h.below.size
  have hb := f.below h.below (fun _ x => x.elim)
  have hown' : w'.ownsRow w0.heap.size e size y n xs := ⟨hown.1, hown.2.imp (fun x => x) fun ⟨g, cap, cur, hv, hg, r⟩ => ⟨g, cap, cur, hv, Nat.le_trans hsz hg, r⟩⟩
  refine hK _ _ (fun k => if k = id then ⟨(match y with | .slice (some g) _ _ => g | _ => default), y⟩ else ρ k) (fun k hk => by simp [hk.ne]) ?_ hb ?_
  · refine h.mem.add f hid ⟨(match y with | .slice (some g) _ _ => g | _ => default), y⟩ (.row e size n xs) ⟨hown', fun g m c hv => by simp only [] at hv; subst hv; rfl, by simpa using h1⟩ ?_ _
    intro b hb
    exact (hown.lt b hb).1
  · refine ⟨applyM_new M _ _ _, den_row hown (by simp) ?_⟩
    intro g m c hy
    subst hy
    simp

/-- An entry is written. -/
theorem SatM.write {B : Nat} (h : SatM B ρ M w) {w' : World} {bs : Nat → Prop} (f : Fr w w' bs) {k : Nat} {e0 e : Ent} (hk : M k = some e0) (ho : e0.own = true)
    (hbs : ∀ b, bs b → e0.blk (ρ k) = some b) (he : EntSat B (ρ k) w' e) (hb : e.blk (ρ k) = e0.blk (ρ k)) (r : AV) :
    SatM B ρ (applyM M ⟨r, [], [(k, e)]⟩) w' := by
  have key : ∀ j e', applyM M ⟨r, [], [(k, e)]⟩ j = some e' → (j = k ∧ e' = e) ∨ (j ≠ k ∧ M j = some e') := by
    intro j e' hj
    simp only [applyM, Mem.get] at hj
    by_cases hjk : j = k
    · subst hjk; simp [hk] at hj; exact .inl ⟨rfl, hj.symm⟩
    · cases hM : M j with
      | none => simp [hM] at hj
      | some e1 => simp [hM, hjk] at hj; exact .inr ⟨hjk, by rw [hj]⟩
  constructor
  · intro j e' hj
    rcases key j e' hj with ⟨rfl, rfl⟩ | ⟨hne, hM⟩
    · exact he
    · refine (h.ent j e' hM).frame f (fun b hb' hbb => ?_)
      rcases h.apart k e0 j e' hk (own_fresh ho) hM (Ne.symm hne) with hn | hn
      · rw [hbs b hbb] at hn; cases hn
      · exact hn (by rw [hbs b hbb, hb'])
  · intro j e1 j' e2 h1 ho1 h2 hne
    rcases key j e1 h1 with ⟨rfl, rfl⟩ | ⟨hne1, hM1⟩
    · rcases key j' e2 h2 with ⟨rfl, rfl⟩ | ⟨hne2, hM2⟩
      · exact absurd rfl hne
      · rw [hb]; exact h.apart j e0 j' e2 hk (own_fresh ho) hM2 hne
    · rcases key j' e2 h2 with ⟨rfl, rfl⟩ | ⟨hne2, hM2⟩
      · rw [hb]; exact h.apart j e1 j' e0 hM1 ho1 hk hne
      · exact h.apart j e1 j' e2 hM1 ho1 hM2 hne

theorem EntSat.own_at {B : Nat} {l : Loc} {e : Ent} {cs : List Value} (h : EntSat B l w e) (ho : e.own = true) (hc : e.cells = some cs) (hne : cs ≠ []) :
    ∃ b ty cur, l.a = ⟨b, 0, none⟩ ∧ e.blk l = some b ∧ w.heap[b]? = some (.cells cur ty (0, 0)) ∧ cur.toList.take cs.length = cs := by
  cases e with
  | box cs' =>
    simp only [Ent.cells, Option.some.injEq] at hc
    subst hc
    obtain ⟨b, ty, ha, _, hh, _⟩ := h
    exact ⟨b, ty, _, ha, by simp [Ent.blk, ha], hh, by simp⟩
  | row e size n xs =>
    simp only [Ent.cells, Option.some.injEq] at hc
    subst hc
    obtain ⟨h1, h2, _⟩ := h
    have hl := h1.1
    rcases h1.2 with ⟨hv, hn⟩ | ⟨g, cap, cur, hv, _, hh, _, _, _, ht⟩
    · subst hn; simp at hl; exact absurd hl hne
    · exact ⟨g, e, cur, h2 _ _ _ hv, by simp [Ent.blk, hv, Value.ownBlock], hh, by rw [hl]; exact ht⟩
  | view fr xs => simp [Ent.own] at ho
  | dead => simp [Ent.own] at ho

def Ent.put (cs : List Value) : Ent → Ent
  | .box _ => .box cs
  | .row e s n _ => .row e s n cs
  | e => e

theorem splice_take (cur cs zs : List Value) (off : Nat) (ht : cur.take cs.length = cs) (hf : off + zs.length ≤ cs.length) :
    (cur.take off ++ zs ++ cur.drop (off + zs.length)).take cs.length = cs.take off ++ zs ++ cs.drop (off + zs.length) := by
  have hl : cs.length ≤ cur.length := by
    have := congrArg List.length ht
    simp at this
    omega
  rw [← ht]
  apply List.ext_getElem?
  intro j
  simp only [List.getElem?_take, List.getElem?_append, List.length_take, List.getElem?_drop, List.length_append]
  grind

theorem EntSat.put {B : Nat} {l : Loc} {e : Ent} {cs zs : List Value} (h : EntSat B l w e) (ho : e.own = true) (hc : e.cells = some cs) (hne : cs ≠ []) {off : Nat} (hf : off + zs.length ≤ cs.length)
    (h1 : ∀ u ∈ zs, u.oneCell' = true) {b : Nat} {ty : TypeId} {cur : Array Value} (ha : l.a = ⟨b, 0, none⟩) (hh : w.heap[b]? = some (.cells cur ty (0, 0))) :
    EntSat B l (w.setRow b (cur.toList.take off ++ zs ++ cur.toList.drop (off + zs.length)).toArray) (e.put (cs.take off ++ zs ++ cs.drop (off + zs.length))) := by
  cases e with
  | box cs' =>
    simp only [Ent.cells, Option.some.injEq] at hc
    subst hc
    obtain ⟨b', ty', ha', hB, hh', h1'⟩ := h
    have hbb : b' = b := by rw [ha] at ha'; simpa using ha'.symm
    subst hbb
    rw [hh] at hh'
    simp only [Option.some.injEq, Obj.cells.injEq] at hh'
    obtain ⟨rfl, rfl, _⟩ := hh'
    refine ⟨b', ty, ha, hB, by simpa using setRow_heap w b' _ _ ty _ hh, ?_⟩
    intro u hu
    simp only [List.mem_append] at hu
    rcases hu with (hu | hu) | hu
    · exact h1' u (List.mem_of_mem_take hu)
    · exact h1 u hu
    · exact h1' u (List.mem_of_mem_drop hu)
  | row e size n xs =>
    simp only [Ent.cells, Option.some.injEq] at hc
    subst hc
    obtain ⟨hown, h2, h1'⟩ := h
    have hl := hown.1
    rcases hown.2 with ⟨hv, hn⟩ | ⟨g, cap, cur', hv, hg, hh', hnc, hcm, hcs, ht⟩
    · subst hn; simp at hl; exact absurd hl hne
    · have := h2 _ _ _ hv
      rw [ha] at this
      simp only [Addr.mk.injEq, and_true] at this
      subst this
      rw [hh] at hh'
      simp only [Option.some.injEq, Obj.cells.injEq] at hh'
      obtain ⟨rfl, rfl, _⟩ := hh'
      refine ⟨⟨?_, .inr ⟨b, cap, _, hv, hg, setRow_heap w b _ _ ty _ hh, hnc, hcm, ?_, ?_⟩⟩, h2, ?_⟩
      · simp only [List.length_append, List.length_take, List.length_drop]; omega
      · simp only [List.size_toArray, List.length_append, List.length_take, List.length_drop, Array.length_toList]
        have : n * size ≤ cap * size := Nat.mul_le_mul_right _ hnc
        omega
      · rw [← hl] at ht ⊢
        exact splice_take _ _ _ _ ht hf
      · intro u hu
        simp only [List.mem_append] at hu
        rcases hu with (hu | hu) | hu
        · exact h1' u (List.mem_of_mem_take hu)
        · exact h1 u hu
        · exact h1' u (List.mem_of_mem_drop hu)
  | view fr xs => simp [Ent.own] at ho
  | dead => simp [Ent.own] at ho

theorem Ent.put_blk (e : Ent) (cs : List Value) (l : Loc) (ho : e.own = true) : (e.put cs).blk l = e.blk l := by
  cases e <;> first | rfl | simp [Ent.own] at ho

end
end Go.Sx
