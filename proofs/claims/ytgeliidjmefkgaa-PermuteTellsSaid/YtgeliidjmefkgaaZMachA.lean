/-
  A small verified machine for walking Go functions whose data are values: memory is told by entries (boxes, rows, views), slots by abstract values.
  This text: the notions, and what one operation does. The machine's operations: what each leaves (opEff), and that the program's operation does just that (op_sound). The machine's operations but calls: the program's operation does just what opEff says. The machine's operations, one by one, but calls of functions. The machine's operations: slices, numbers, append; and all of them together but calls of functions (op_sound0). The machine's calls, and all operations together (op_sound). The machine's operations, all together (op_sound). No conditions.
-/
import Derived.WalkKit
namespace Go.Sx

/-- What a slot may hold: a plain value; a pointer to cell 'off' of entry k; a slice over entry k from cell 'off' on; the slice that entry k (a row) is; a function value that has captured the boxes ks; anything. -/
inductive A0 where
  | v (x : Value)
  | p (k off : Nat)
  | s (k off len : Nat)
  | r (k n : Nat)
  | fn (f : Nat) (ks : List Nat)
  | any
inductive AV where
  | o (a : A0)
  | t (l : List A0)
/-- What is known of a piece of memory: a box of plain cells; a row; what is read alone; a box of cells that may point; the slots of a function that waits (no memory at all); nothing; that something is so and stays so. -/
inductive Ent where
  | box (cs : List Value)
  | row (e size n : Nat) (xs : List Value)
  | view (fr : Bool) (xs : List Value)
  | hdr (cs : List A0)
  | sav (j : Nat) (l : List AV)
  | fact (rt : Bool) (F : World → Prop)
  | dead
structure Loc where
  a : Addr
  v : Value

abbrev MemF := Nat → Option Ent

def Ent.cells : Ent → Option (List Value)
  | .box cs => some cs
  | .row _ _ _ xs => some xs
  | .view _ xs => some xs
  | .hdr _ => none
  | .sav _ _ => none
  | .fact _ _ => none
  | .dead => none
def Ent.own : Ent → Bool
  | .box _ => true
  | .row .. => true
  | .hdr _ => true
  | _ => false
/-- It lies in a block of its own, of the call's making. -/
def Ent.fresh : Ent → Bool
  | .box _ => true
  | .row .. => true
  | .view fr _ => fr
  | .hdr _ => true
  | .sav _ _ => false
  | .fact _ _ => false
  | .dead => false
theorem own_fresh {e : Ent} (h : e.own = true) : e.fresh = true := by cases e <;> first | rfl | simp [Ent.own] at h
def Ent.blk (l : Loc) : Ent → Option Nat
  | .box cs => if cs.isEmpty then none else some l.a.block
  | .row .. => l.v.ownBlock
  | .view _ xs => if xs.isEmpty then none else some l.a.block
  | .hdr cs => if cs.isEmpty then none else some l.a.block
  | .sav _ _ => none
  | .fact _ _ => none
  | .dead => none

def Den0 (ρ : Nat → Loc) (M : MemF) : A0 → Value → Prop
  | .v x, y => y = x
  | .p k off, y => (M k).isSome = true ∧ y = .pointer (some ((ρ k).a.add off))
  | .s k off len, y => (M k).isSome = true ∧ ∃ o cap, y = .slice o len cap ∧ len ≤ cap ∧ (len = 0 ∨ o = some ((ρ k).a.add off)) ∧ (o = none → cap = 0)
  | .r k n, y => (M k).isSome = true ∧ y = (ρ k).v ∧ ∃ o cap, y = .slice o n cap ∧ n ≤ cap ∧ (n = 0 ∨ o = some (ρ k).a) ∧ (o = none → cap = 0)
  | .fn f ks, y => (∀ k ∈ ks, (M k).isSome = true) ∧ y = .func (.func f) #[] (ks.map fun k => Value.pointer (some (ρ k).a)).toArray
  | .any, _ => True
def DenL (ρ : Nat → Loc) (M : MemF) : List A0 → List Value → Prop
  | [], [] => True
  | a :: l, y :: ys => Den0 ρ M a y ∧ DenL ρ M l ys
  | _, _ => False
def Den (ρ : Nat → Loc) (M : MemF) : AV → Value → Prop
  | .o a, y => Den0 ρ M a y
  | .t l, y => ∃ ys, y = .tuple ys.toArray ∧ DenL ρ M l ys

/-- Where a call began, and which blocks it may write: new ones, and those that were given to it; and which blocks another may write behind it. -/
structure Base where
  w : World
  own : Nat → Prop
  new : ∀ b, w.heap.size ≤ b → own b
  sv : Nat → Array Value
  df : List Deferred
  hid : Nat → Prop
  dis : ∀ b, own b → ¬ hid b
/-- The blocks that a fact must not hang on. -/
def asideO : Obj → Bool
  | .deferred _ => true
  | .loop _ => true
  | _ => false
/-- A block of the machinery for deferred calls and loops. -/
def aside (w : World) (b : Nat) : Prop := ∃ o, w.heap[b]? = some o ∧ asideO o = true
def Base.st (w0 : Base) (rt : Bool) (b : Nat) : Prop := w0.own b ∨ (rt = true ∧ w0.hid b) ∨ aside w0.w b
def EntSat (B : Nat → Prop) (l : Loc) (w : World) : Ent → Prop
  | .box cs => (∀ u ∈ cs, u.oneCell' = true) ∧ (cs.isEmpty = false → ∃ b ty cur, l.a = ⟨b, 0, none⟩ ∧ B b ∧ w.heap[b]? = some (.cells cur ty (0, 0)) ∧ cur.toList.take cs.length = cs)
  | .row e size n xs => w.ownsRow 0 e size l.v n xs ∧ (∀ g m c, l.v = .slice (some g) m c → l.a = g) ∧ (∀ u ∈ xs, u.oneCell' = true) ∧ ∀ b, l.v.ownBlock = some b → B b
  | .view fr xs => (∀ j u, xs[j]? = some u → w.cell? (l.a.add j) = some u) ∧ (∀ u ∈ xs, u.oneCell' = true) ∧ (fr = true → xs.isEmpty = false → B l.a.block)
  | .hdr cs => cs.isEmpty = false → ∃ b ty cur, l.a = ⟨b, 0, none⟩ ∧ B b ∧ w.heap[b]? = some (.cells cur ty (0, 0)) ∧ cs.length ≤ cur.size
  | .sav _ _ => True
  | .fact _ _ => True
  | .dead => True

/-- The cells of a box that may point. -/
def HdrOK (ρ : Nat → Loc) (M : MemF) (l : Loc) (w : World) (cs : List A0) : Prop :=
  ∀ j a, cs[j]? = some a → ∃ y, w.cell? (l.a.add j) = some y ∧ y.oneCell' = true ∧ Den0 ρ M a y
/-- What a step may change: the blocks of bs, and new ones. -/
structure Fr (w w' : World) (bs : Nat → Prop) : Prop where
  os : w'.os = w.os
  tape : w'.tape = w.tape
  output : w'.output = w.output
  size : w.heap.size ≤ w'.heap.size
  drawn : w.drawn ≤ w'.drawn
  block : ∀ k, k < w.heap.size → ¬ bs k → w'.heap[k]? = w.heap[k]?

theorem Fr.refl (w : World) (bs) : Fr w w bs := ⟨rfl, rfl, rfl, Nat.le_refl _, Nat.le_refl _, fun _ _ _ => rfl⟩
theorem Fr.mono {w w' : World} {bs bs' : Nat → Prop} (h : Fr w w' bs) (hb : ∀ k, bs k → bs' k) : Fr w w' bs' :=
  ⟨h.os, h.tape, h.output, h.size, h.drawn, fun k hk hn => h.block k hk (fun x => hn (hb k x))⟩
theorem Fr.alloc (w : World) (o : Obj) (bs) : Fr w (w.alloc o) bs := ⟨rfl, rfl, rfl, by simp, Nat.le_refl _, fun k hk _ => RowKit.Below.heap_alloc w o k hk⟩
theorem Fr.setRow (w : World) (g : Nat) (cs : Array Value) : Fr w (w.setRow g cs) (· = g) :=
  ⟨rfl, rfl, rfl, by simp, Nat.le_refl _, fun k _ hn => setRow_other w g k cs hn⟩
theorem Fr.of_grown {w w' : World} {row : Option Nat} (h : w.grownBy w' row) (hd : w.drawn ≤ w'.drawn) : Fr w w' (fun k => row = some k) :=
  ⟨h.os, h.tape, h.output, h.size, hd, fun k hk hn => h.block k hk (fun e => hn e.symm)⟩
theorem Fr.below {w0 w w' : World} {bs O : Nat → Prop} (f : Fr w w' bs) (h : Fr w0 w O) (hb : ∀ k, bs k → O k) : Fr w0 w' O :=
  ⟨f.os.trans h.os, f.tape.trans h.tape, f.output.trans h.output, Nat.le_trans h.size f.size, Nat.le_trans h.drawn f.drawn,
   fun k hk hn => (f.block k (Nat.lt_of_lt_of_le hk h.size) (fun x => hn (hb k x))).trans (h.block k hk hn)⟩

theorem Fr.drew {w0 w : World} {bs : Nat → Prop} (h : Fr w0 w bs) : Fr w0 w.drew bs := ⟨h.os, h.tape, h.output, h.size, Nat.le_succ_of_le h.drawn, h.block⟩
structure SatM (w0 : Base) (ρ : Nat → Loc) (M : MemF) (w : World) : Prop where
  ent : ∀ k e, M k = some e → EntSat w0.own (ρ k) w e
  hdr : ∀ k cs, M k = some (.hdr cs) → HdrOK ρ M (ρ k) w cs
  sav : ∀ k j l, M k = some (.sav j l) → l.length = (w0.sv j).size ∧ ∀ i, Den ρ M (l.getD i (.o .any)) ((w0.sv j).getD i undef)
  apart : ∀ k e k' e', M k = some e → e.fresh = true → M k' = some e' → k ≠ k' → e.blk (ρ k) = none ∨ e.blk (ρ k) ≠ e'.blk (ρ k')
  fct : ∀ k rt F, M k = some (.fact rt F) → ∀ w', Fr w0.w w' (w0.st rt) → F w'

theorem EntSat.lt {B l w e b} (h : EntSat B l w e) (hb : e.blk l = some b) : b < w.heap.size := by
  cases e with
  | box cs =>
    simp only [Ent.blk] at hb
    split at hb
    · cases hb
    · rename_i hne
      obtain ⟨b', ty, cur, ha, _, hh, _⟩ := h.2 (by simpa using hne)
      simp only [ha, Option.some.injEq] at hb
      subst hb
      exact (Array.getElem?_eq_some_iff.1 hh).1
  | row e size n xs => exact (h.1.lt b hb).2
  | view fr xs =>
    simp only [Ent.blk] at hb
    split at hb
    · simp at hb
    · rename_i hne
      simp only [Option.some.injEq] at hb
      cases xs with
      | nil => simp at hne
      | cons x xs =>
        have := World.block_lt_of_cell? w _ (h.1 0 x rfl)
        simp [Addr.add] at this
        omega
  | hdr cs =>
    simp only [Ent.blk] at hb
    split at hb
    · cases hb
    · rename_i hne
      obtain ⟨b', ty, cur, ha, _, hh, _⟩ := h (by simpa using hne)
      simp only [ha, Option.some.injEq] at hb
      subst hb
      exact (Array.getElem?_eq_some_iff.1 hh).1
  | sav j l' => simp [Ent.blk] at hb
  | fact rt F => simp [Ent.blk] at hb
  | dead => simp [Ent.blk] at hb

theorem EntSat.ge {B l w e b} (h : EntSat B l w e) (ho : e.own = true) (hb : e.blk l = some b) : B b := by
  cases e with
  | box cs =>
    simp only [Ent.blk] at hb
    split at hb
    · cases hb
    · rename_i hne
      obtain ⟨b', ty, cur, ha, hB, _⟩ := h.2 (by simpa using hne)
      simp only [ha, Option.some.injEq] at hb
      exact hb ▸ hB
  | row e size n xs => exact h.2.2.2 b hb
  | hdr cs =>
    simp only [Ent.blk] at hb
    split at hb
    · cases hb
    · rename_i hne
      obtain ⟨b', ty, cur, ha, hB, _⟩ := h (by simpa using hne)
      simp only [ha, Option.some.injEq] at hb
      exact hb ▸ hB
  | view fr xs => simp [Ent.own] at ho
  | sav j l' => simp [Ent.own] at ho
  | fact rt F => simp [Ent.own] at ho
  | dead => simp [Ent.own] at ho

theorem addr_add_block (a : Addr) (n : Nat) : (a.add n).block = a.block := by unfold Addr.add; split <;> rfl
theorem addr_add_add (a : Addr) (m n : Nat) : (a.add m).add n = a.add (m + n) := by
  unfold Addr.add
  by_cases hm : m = 0
  · subst hm; simp
  · by_cases hn : n = 0
    · subst hn; simp [hm]
    · simp [hm, hn, Nat.add_assoc]

theorem EntSat.frame {B l w w' e bs} (h : EntSat B l w e) (f : Fr w w' bs) (hb : ∀ b, e.blk l = some b → ¬ bs b) : EntSat B l w' e := by
  cases e with
  | box cs =>
    refine ⟨h.1, fun hne => ?_⟩
    obtain ⟨b, ty, cur, ha, hB, hh, h1⟩ := h.2 hne
    refine ⟨b, ty, cur, ha, hB, ?_, h1⟩
    rw [f.block b (Array.getElem?_eq_some_iff.1 hh).1 (hb b (by simp [Ent.blk, ha, hne]))]
    exact hh
  | row e size n xs =>
    obtain ⟨⟨hl, hr⟩, h2, h3⟩ := h
    refine ⟨⟨hl, ?_⟩, h2, h3⟩
    rcases hr with hn | ⟨g, cap, cur, hv, hg, hh, rest⟩
    · exact .inl hn
    · refine .inr ⟨g, cap, cur, hv, hg, ?_, rest⟩
      rw [f.block g (Array.getElem?_eq_some_iff.1 hh).1 (hb g (by simp [Ent.blk, hv, Value.ownBlock]))]
      exact hh
  | view fr xs =>
    obtain ⟨h1, h2, h3⟩ := h
    refine ⟨fun j u hu => ?_, h2, h3⟩
    have hc := h1 j u hu
    rw [World.cell?_of_block (w := w) ?_]
    · exact hc
    · refine f.block _ (World.block_lt_of_cell? w _ hc) ?_
      rw [addr_add_block]
      refine hb _ ?_
      cases xs with
      | nil => simp at hu
      | cons x xs => simp [Ent.blk]
  | hdr cs =>
    intro hne
    obtain ⟨b, ty, cur, ha, hB, hh, h1⟩ := h hne
    refine ⟨b, ty, cur, ha, hB, ?_, h1⟩
    rw [f.block b (Array.getElem?_eq_some_iff.1 hh).1 (hb b (by simp [Ent.blk, ha, hne]))]
    exact hh
  | sav j l' => trivial
  | fact rt F => trivial
  | dead => trivial

/-- An entry reads. -/
theorem EntSat.reads {B l w e cs} (h : EntSat B l w e) (hc : e.cells = some cs) (hne : cs ≠ [] ) : ∀ j u, cs[j]? = some u → w.cell? (l.a.add j) = some u := by
  intro j u hu
  cases e with
  | box cs' =>
    simp only [Ent.cells, Option.some.injEq] at hc
    subst hc
    obtain ⟨b, ty, cur, ha, _, hh, ht⟩ := h.2 (by cases cs' with | nil => exact absurd rfl hne | cons _ _ => rfl)
    rw [ha, Addr.add_lit, cell_of_row w b _ _ ty (0, 0) hh]
    rw [← ht, List.getElem?_take] at hu
    split at hu
    · simpa using hu
    · cases hu
  | row e size n xs =>
    simp only [Ent.cells, Option.some.injEq] at hc
    subst hc
    obtain ⟨h1, h2, _⟩ := h
    rcases h1.2 with ⟨hv, hn⟩ | ⟨g, cap, cur, hv, _⟩
    · subst hn
      have hl := h1.1
      simp at hl
      exact absurd hl hne
    · rw [h2 _ _ _ hv]
      exact h1.cells (g := g) (by simp [hv, Value.ownBlock]) j u hu
  | view fr xs =>
    simp only [Ent.cells, Option.some.injEq] at hc
    subst hc
    exact h.1 j u hu
  | hdr cs => simp [Ent.cells] at hc
  | sav j l' => simp [Ent.cells] at hc
  | fact rt F => simp [Ent.cells] at hc
  | dead => simp [Ent.cells] at hc

theorem EntSat.one {B l w e cs} (h : EntSat B l w e) (hc : e.cells = some cs) : ∀ u ∈ cs, u.oneCell' = true := by
  cases e with
  | box cs' => simp only [Ent.cells, Option.some.injEq] at hc; subst hc; exact h.1
  | row e size n xs => simp only [Ent.cells, Option.some.injEq] at hc; subst hc; exact h.2.2.1
  | view fr xs => simp only [Ent.cells, Option.some.injEq] at hc; subst hc; exact h.2.1
  | hdr cs => simp [Ent.cells] at hc
  | sav j l' => simp [Ent.cells] at hc
  | fact rt F => simp [Ent.cells] at hc
  | dead => simp [Ent.cells] at hc

/-- An entry's block holds cells. -/
theorem EntSat.isCells {B l w e b} (h : EntSat B l w e) (hb : e.blk l = some b) : ∃ cur ty c, w.heap[b]? = some (.cells cur ty c) := by
  cases e with
  | box cs =>
    simp only [Ent.blk] at hb
    split at hb
    · cases hb
    · rename_i hne
      obtain ⟨b', ty, cur, ha, _, hh, _⟩ := h.2 (by simpa using hne)
      simp only [ha, Option.some.injEq] at hb
      subst hb
      exact ⟨_, _, _, hh⟩
  | hdr cs =>
    simp only [Ent.blk] at hb
    split at hb
    · cases hb
    · rename_i hne
      obtain ⟨b', ty, cur, ha, _, hh, _⟩ := h (by simpa using hne)
      simp only [ha, Option.some.injEq] at hb
      subst hb
      exact ⟨_, _, _, hh⟩
  | row e size n xs =>
    obtain ⟨⟨hl, hr⟩, h2, h3⟩ := h
    rcases hr with ⟨hv, hn⟩ | ⟨g, cap, cur, hv, hg, hh, rest⟩
    · simp [Ent.blk, hv, Value.ownBlock] at hb
    · simp only [Ent.blk, hv, Value.ownBlock, Option.some.injEq] at hb
      subst hb
      exact ⟨_, _, _, hh⟩
  | view fr xs =>
    simp only [Ent.blk] at hb
    split at hb
    · cases hb
    · rename_i hne
      simp only [Option.some.injEq] at hb
      subst hb
      cases xs with
      | nil => simp at hne
      | cons x xs =>
        have hc := h.1 0 x rfl
        have e0 : l.a.add 0 = l.a := by simp [Addr.add]
        rw [e0] at hc
        unfold World.cell? at hc
        cases ho : w.heap[l.a.block]? with
        | none => simp [ho] at hc
        | some o => cases o with
          | cells cur ty c => exact ⟨_, _, _, rfl⟩
          | _ => simp [ho] at hc
  | sav j l' => simp [Ent.blk] at hb
  | fact rt F => simp [Ent.blk] at hb
  | dead => simp [Ent.blk] at hb

/-- What an operation leaves: its value, new entries, entries that are other than before. -/
abbrev Mem := List (Nat × Ent)
def Mem.get : Mem → Nat → Option Ent
  | [], _ => none
  | (j, e) :: m, k => if k = j then some e else Mem.get m k
structure Upd where
  r : AV
  cr : Mem
  wr : Mem
def applyM (M : MemF) (u : Upd) : MemF := fun k =>
  match u.cr.get k with
  | some e => some e
  | none => match M k with
    | none => none
    | some e0 => match u.wr.get k with
      | some e => some e
      | none => some e0

theorem applyM_nil (M : MemF) (r : AV) : applyM M ⟨r, [], []⟩ = M := by
  funext k
  simp only [applyM, Mem.get]
  cases M k <;> rfl

theorem live_applyM {M : MemF} {u : Upd} {k : Nat} (h : (M k).isSome = true) : (applyM M u k).isSome = true := by
  unfold applyM
  cases u.cr.get k with
  | some e => rfl
  | none =>
    cases hk : M k with
    | none => simp [hk] at h
    | some e0 => simp only; cases u.wr.get k <;> rfl

/-- k is none of the four numbers from id on. -/
def Out (id k : Nat) : Prop := k < id ∨ id + 4 ≤ k
theorem Out.ne {id k : Nat} (h : Out id k) : k ≠ id := by unfold Out at h; omega

theorem Den0.mono {ρ ρ' : Nat → Loc} {M M' : MemF} {a : A0} {y : Value} (h : Den0 ρ M a y) (hM : ∀ k, (M k).isSome = true → (M' k).isSome = true ∧ ρ' k = ρ k) : Den0 ρ' M' a y := by
  cases a with
  | v x => exact h
  | p k off => exact ⟨(hM k h.1).1, by rw [(hM k h.1).2]; exact h.2⟩
  | s k off len => exact ⟨(hM k h.1).1, by rw [(hM k h.1).2]; exact h.2⟩
  | r k n => exact ⟨(hM k h.1).1, by rw [(hM k h.1).2]; exact h.2⟩
  | fn f ks =>
    refine ⟨fun k hk => (hM k (h.1 k hk)).1, ?_⟩
    rw [h.2]
    congr 2
    exact List.map_congr_left fun k hk => by rw [(hM k (h.1 k hk)).2]
  | any => trivial
theorem DenL.mono {ρ ρ' : Nat → Loc} {M M' : MemF} (hM : ∀ k, (M k).isSome = true → (M' k).isSome = true ∧ ρ' k = ρ k) : ∀ {l : List A0} {ys : List Value}, DenL ρ M l ys → DenL ρ' M' l ys
  | [], [], _ => trivial
  | _ :: _, _ :: _, h => ⟨h.1.mono hM, DenL.mono hM h.2⟩
theorem Den.mono {ρ ρ' : Nat → Loc} {M M' : MemF} {a : AV} {y : Value} (h : Den ρ M a y) (hM : ∀ k, (M k).isSome = true → (M' k).isSome = true ∧ ρ' k = ρ k) : Den ρ' M' a y := by
  cases a with
  | o a => exact Den0.mono h hM
  | t l => obtain ⟨ys, hy, hl⟩ := h; exact ⟨ys, hy, DenL.mono hM hl⟩

/-- What is told of boxes that point, and of waiting slots, stays. -/
theorem SatM.hdr_keep {w0 : Base} {ρ ρ' : Nat → Loc} {M M' : MemF} {w w' : World} (h : SatM w0 ρ M w) {bs : Nat → Prop} (f : Fr w w' bs) (hl : ∀ k, (M k).isSome = true → (M' k).isSome = true ∧ ρ' k = ρ k) {k : Nat} {cs : List A0} (hk : M k = some (.hdr cs))
    (hb : ∀ b, (Ent.hdr cs).blk (ρ k) = some b → ¬ bs b) : HdrOK ρ' M' (ρ' k) w' cs := by
  intro j a hj
  obtain ⟨y, h1, h2, h3⟩ := h.hdr k cs hk j a hj
  refine ⟨y, ?_, h2, h3.mono hl⟩
  rw [(hl k (by simp [hk])).2, World.cell?_of_block (w := w) ?_]
  · exact h1
  · refine f.block _ (World.block_lt_of_cell? w _ h1) ?_
    rw [addr_add_block]
    refine hb _ ?_
    cases cs with
    | nil => simp at hj
    | cons x xs => simp [Ent.blk]
theorem SatM.sav_keep {w0 : Base} {ρ ρ' : Nat → Loc} {M M' : MemF} {w : World} (h : SatM w0 ρ M w) (hl : ∀ k, (M k).isSome = true → (M' k).isSome = true ∧ ρ' k = ρ k) {k j : Nat} {l : List AV} (hk : M k = some (.sav j l)) :
    l.length = (w0.sv j).size ∧ ∀ i, Den ρ' M' (l.getD i (.o .any)) ((w0.sv j).getD i undef) := ⟨(h.sav k j l hk).1, fun i => ((h.sav k j l hk).2 i).mono hl⟩

/-! ### Contracts -/
inductive Arg where
  | val (x : Value)
  | fa (x : Value) (F : World → Prop)
  | sl (n size : Nat) (xs : List Value)
  | mv (e size n : Nat) (xs : List Value)
  | bx (xs : List Value)
  | io (e size n : Nat) (xs ys : List Value)
  | ib (xs ys : List Value)
  | fv (f : Nat)
inductive Res where
  | val (x : Value)
  | fa (F : Value → World → Prop)
  | row (e size n : Nat) (xs : List Value)
  | view (n size : Nat) (xs : List Value)
  | part (n size : Nat) (xs : List Value)

def ReadsSlice (w : World) (y : Value) (n size : Nat) (xs : List Value) : Prop :=
  ∃ o cap, y = .slice o n cap ∧ n ≤ cap ∧ xs.length = n * size ∧ (o = none → cap = 0) ∧ (∀ u ∈ xs, u.oneCell' = true) ∧
    (xs ≠ [] → ∃ a, o = some a ∧ ∀ j u, xs[j]? = some u → w.cell? (a.add j) = some u)
def ArgOK (w : World) : Arg → Value → Prop
  | .val x, y => y = x
  | .fa x F, y => y = x ∧ F w
  | .sl n size xs, y => ReadsSlice w y n size xs
  | .mv e size n xs, y => w.ownsRow 0 e size y n xs ∧ ∀ u ∈ xs, u.oneCell' = true
  | .bx xs, y => ∃ a, y = .pointer (some a) ∧ (∀ u ∈ xs, u.oneCell' = true) ∧ ∀ j u, xs[j]? = some u → w.cell? (a.add j) = some u
  | .io e size n xs _, y => w.ownsRow 0 e size y n xs ∧ ∀ u ∈ xs, u.oneCell' = true
  | .fv f, y => y = .func (.func f) #[] #[]
  | .ib xs _, y => xs.isEmpty = false ∧ (∀ u ∈ xs, u.oneCell' = true) ∧ ∃ b ty cur, y = .pointer (some ⟨b, 0, none⟩) ∧ w.heap[b]? = some (.cells cur ty (0, 0)) ∧ cur.toList.take xs.length = xs
def ArgsOK (w : World) : List Arg → List Value → Prop
  | [], [] => True
  | a :: l, y :: ys => ArgOK w a y ∧ ArgsOK w l ys
  | _, _ => False
def movedBlk : Arg → Value → Option Nat
  | .mv .., y => y.ownBlock
  | .io .., y => y.ownBlock
  | .ib .., .pointer (some a) => some a.block
  | _, _ => none
def moved : List Arg → List Value → Nat → Prop
  | a :: l, y :: ys, b => movedBlk a y = some b ∨ moved l ys b
  | _, _, _ => False
/-- The moved rows are apart from each other and from what the other arguments read. -/
def readBlk : Arg → Value → Option Nat
  | .val _, _ => none
  | .fa _ _, _ => none
  | .fv _, _ => none
  | .sl _ _ xs, y => if xs.isEmpty then none else y.ownBlock
  | .mv .., y => y.ownBlock
  | .bx xs, y => if xs.isEmpty then none else (match y with | .pointer (some a) => some a.block | _ => none)
  | .io .., y => y.ownBlock
  | .ib .., y => (match y with | .pointer (some a) => some a.block | _ => none)
def apartArgs : List Arg → List Value → Prop
  | a :: l, y :: ys => (∀ b, movedBlk a y = some b → ∀ a' y', (a', y') ∈ l.zip ys → readBlk a' y' ≠ some b) ∧
      (∀ b, readBlk a y = some b → ∀ a' y', (a', y') ∈ l.zip ys → movedBlk a' y' ≠ some b) ∧ apartArgs l ys
  | _, _ => True
def ResOK (w' : World) (new : Nat → Prop) : Res → Value → Prop
  | .val x, z => z = x
  | .fa _, _ => True
  | .row e size n xs, z => w'.ownsRow 0 e size z n xs ∧ (∀ u ∈ xs, u.oneCell' = true) ∧ ∀ b, z.ownBlock = some b → new b
  | .view n size xs, z => ReadsSlice w' z n size xs ∧ ∀ b, xs.isEmpty = false → z.ownBlock = some b → new b
  | .part n size xs, z => ReadsSlice w' z n size xs ∧ (xs.isEmpty = false → ∃ b c ty cur, z = .slice (some ⟨b, 0, none⟩) n c ∧ new b ∧ w'.heap[b]? = some (.cells cur ty (0, 0)) ∧ cur.toList.take xs.length = xs)
def ResBlk : Res → Value → Option Nat
  | .val _, _ => none
  | .fa _, _ => none
  | .row .., z => z.ownBlock
  | .view _ _ xs, z => if xs.isEmpty then none else z.ownBlock
  | .part _ _ xs, z => if xs.isEmpty then none else z.ownBlock
def RessOK (w' : World) (new : Nat → Prop) : List Res → List Value → Prop
  | [], [] => True
  | a :: l, y :: ys => ResOK w' new a y ∧ RessOK w' new l ys ∧ (∀ b, ResBlk a y = some b → ∀ a' y', (a', y') ∈ l.zip ys → ResBlk a' y' ≠ some b)
  | _, _ => False
/-- The rows that are written in place, behind the call; they are apart from what it answers. -/
def ioOK (w' : World) : Arg → Value → Prop
  | .io e size n _ ys, y => w'.ownsRow 0 e size y n ys ∧ ∀ u ∈ ys, u.oneCell' = true
  | .ib _ ys, y => ys.isEmpty = false ∧ (∀ u ∈ ys, u.oneCell' = true) ∧ ∃ b ty cur, y = .pointer (some ⟨b, 0, none⟩) ∧ w'.heap[b]? = some (.cells cur ty (0, 0)) ∧ cur.toList.take ys.length = ys
  | _, _ => True
def isIo : Arg → Bool
  | .io .. => true
  | .ib .. => true
  | _ => false
def iosOK (w' : World) (as : List Arg) (ys : List Value) (rs : List Res) (zs : List Value) : Prop :=
  ∀ (i : Nat) (a : Arg) (y : Value), as[i]? = some a → ys[i]? = some y → ioOK w' a y ∧ (isIo a = true → ∀ b, movedBlk a y = some b → ∀ (j : Nat) (r : Res) (z : Value), rs[j]? = some r → zs[j]? = some z → ResBlk r z ≠ some b)
def pack : List Value → Value
  | [z] => z
  | zs => .tuple zs.toArray

/-- What the arguments' facts hang on is left alone. -/
def factsOK (w : World) (C : Nat → Prop) (as : List Arg) (ys : List Value) : Prop :=
  ∀ (i : Nat) (x : Value) (F : World → Prop), as[i]? = some (.fa x F) → ∀ w', Fr w w' (fun b => moved as ys b ∨ C b ∨ aside w b) → F w'
/-- What is said of the results stays so while the blocks bs are left alone; these are new. -/
def resF (w w' : World) (C : Nat → Prop) (as : List Arg) (ys : List Value) (rs : List Res) (zs : List Value) : Prop :=
  ∃ bs : Nat → Prop, (∀ b, bs b → w.heap.size ≤ b ∨ moved as ys b) ∧
    (∀ (j : Nat) (r : Res) (z : Value) (b : Nat), rs[j]? = some r → zs[j]? = some z → ResBlk r z = some b → ¬ bs b) ∧
    (∀ (j : Nat) (a : Arg) (y : Value) (b : Nat), as[j]? = some a → ys[j]? = some y → isIo a = true → movedBlk a y = some b → ¬ bs b) ∧
    ∀ (j : Nat) (F : Value → World → Prop) (z : Value), rs[j]? = some (.fa F) → zs[j]? = some z → ∀ w'', Fr w' w'' (fun b => ((w.heap.size ≤ b ∨ moved as ys b ∨ C b) ∧ ¬ bs b) ∨ aside w' b) → F z w''
def noFaB : List Arg → Bool
  | [] => true
  | .fa _ _ :: _ => false
  | _ :: l => noFaB l
theorem noFaB_at : ∀ {as : List Arg} {i : Nat} {x : Value} {F : World → Prop}, noFaB as = true → as[i]? ≠ some (.fa x F)
  | [], i, x, F, _ => by simp
  | a :: as, 0, x, F, h => by
    intro h0
    simp only [List.getElem?_cons_zero, Option.some.injEq] at h0
    subst h0
    cases h
  | a :: as, i + 1, x, F, h => by
    have h2 : noFaB as = true := by cases a <;> first | exact h | cases h
    simpa using noFaB_at (i := i) h2
theorem factsOK_of {w : World} {C : Nat → Prop} {as : List Arg} {ys : List Value} (h : noFaB as = true) : factsOK w C as ys := fun _ _ _ hi => absurd hi (noFaB_at h)

/-- What a function does, told by values and lists alone. -/
def callable (P : Program) (f : Nat) : Prop := ∀ (args : Array Value) (w : World), (callFunc f args).run P w = .ok (.enter f args) w
def Contract1 (P : Program) (f : Nat) (as : List Arg) (rs : List Res) : Prop :=
  callable P f ∧ ∀ (w : World) (ys : List Value) (C : Nat → Prop), ArgsOK w as ys → apartArgs as ys → factsOK w C as ys →
    Calls P f ys.toArray w fun e w' => ∃ zs, e = .returned (pack zs) ∧ Fr w w' (moved as ys) ∧
      RessOK w' (fun b => w.heap.size ≤ b ∨ moved as ys b) rs zs ∧ iosOK w' as ys rs zs ∧ resF w w' C as ys rs zs

/-- A function without a body in Go, of which the model tells the value. -/
def Contract2 (P : Program) (f : Nat) (as : List Arg) (rs : List Res) : Prop :=
  ∃ xs zs : List Value, as = xs.map Arg.val ∧ rs = zs.map Res.val ∧ ∀ w, (callFunc f xs.toArray).run P w = .ok (.value (pack zs)) w
def Contract (P : Program) (f : Nat) (as : List Arg) (rs : List Res) : Prop := Contract1 P f as rs ∨ Contract2 P f as rs

theorem callable_of {P : Program} {f : Nat} {fn : Func} (hf : P.funcs[f]? = some fn) (hb : fn.body.isNone = false) (hn : (fn.name == "runtime.NumGoroutine") = false) : callable P f := by
  intro args w
  simp only [callFunc, Sem.run_bind, run_program, Result.andThen_ok, hf, hn, hb]
  rfl

end Go.Sx
namespace Go.Sx

def ev (T : Nat → AV) : Operand → AV
  | .tmp i => T i
  | .const x => .o (.v x)
  | .func f => .o (.fn f [])
  | _ => .o .any

def tsz (P : Program) (t : TypeId) : Option Nat := (P.info? t).map (·.size)
def aggD : TypeDesc → Bool
  | .struct _ => true
  | .array _ _ => true
  | _ => false
def aggT (P : Program) (t : TypeId) : Option Bool := (P.underlying t).map aggD
def zcells (P : Program) (t : TypeId) : Option (List Value) := (P.info? t).bind fun i => i.zero.map fun z => z.cells.toList
def arrD (P : Program) : TypeDesc → Option (Nat × Nat)
  | .array n e => (tsz P e).map fun s => (n, s)
  | _ => none
def arrI (P : Program) (t : TypeId) : Option (Nat × Nat) := (P.underlying t).bind (arrD P)
def slD (P : Program) : TypeDesc → Option Nat
  | .slice e => tsz P e
  | _ => none
def slI (P : Program) (t : TypeId) : Option Nat := (P.underlying t).bind (slD P)
def fldD (P : Program) (f : Nat) : TypeDesc → Option (Nat × Nat)
  | .struct fs => (fs[f]?).bind fun x => (tsz P x.type).map fun s => (x.offset, s)
  | _ => none
def fldI (P : Program) (t : TypeId) (f : Nat) : Option (Nat × Nat) := (P.underlying t).bind (fldD P f)
structure Mk where
  e : Nat
  size : Nat
  bytes : Nat
  zero : List Value
def mkD (P : Program) : TypeDesc → Option Mk
  | .slice e => (P.info? e).bind fun i => i.zero.map fun z => ⟨e, i.size, i.bytes, z.cells.toList⟩
  | _ => none
def mkI (P : Program) (t : TypeId) : Option Mk := (P.underlying t).bind (mkD P)
def intD : TypeDesc → Option IntKind
  | .int k => some k
  | _ => none
def intT (P : Program) (t : TypeId) : Option IntKind := (P.underlying t).bind intD

def bsCells (len size : Nat) (zero : List Value) (parts : List (Nat × Value)) : Option (Array Value) :=
  Instr.fill (fun i => some (i * size, size)) ((Array.range (len * size)).map fun j => zero.toArray[j % zero.toArray.size]!) parts

def plain : AV → Option Value
  | .o (.v x) => some x
  | _ => none
def plains (T : Nat → AV) : List (Nat × Operand) → Option (List (Nat × Value))
  | [] => some []
  | (i, x) :: l => match plain (ev T x), plains T l with
    | some y, some ys => some ((i, y) :: ys)
    | _, _ => none

/-- The cells that a slice or row argument shows. -/
def sliceCells (M : MemF) (size : Nat) : AV → Option (Nat × List Value)
  | .o (.s k off len) => match M k with
    | some e => match e.cells with
      | some cs => some (len, (cs.drop off).take (len * size))
      | none => none
    | none => none
  | .o (.r k _) => match M k with
    | some (.row _ sz n xs) => if sz = size then some (n, xs) else none
    | _ => none
  | .o (.v (.slice none 0 0)) => some (0, [])
  | _ => none

inductive Eff where
  | fail
  | ok (c : Prop) (u : Upd)
  | ex (S : Value → Prop)
  | call (f : Nat) (args : List AV)
  | clo (f : Nat) (args : List AV)
  | nd (S : Bool → Prop)
  | raw

def pureOp (P : Program) (T : Nat → AV) (op : Op) (z : Value) : Prop :=
  ∀ (o : Oper) (a : Operand → Value) (w : World), o.op = op → (∀ x ∈ op.operands, ∀ y, ev T x = .o (.v y) → a x = y) → (∀ f, a (.func f) = .func (.func f) #[] #[]) → (execOp a o).run P w = .ok (.value z) w

/-- The same, where the facts hold. -/
def factOp (P : Program) (T : Nat → AV) (M : MemF) (op : Op) (z : Value) : Prop :=
  ∀ (o : Oper) (a : Operand → Value) (w : World), o.op = op → (∀ x ∈ op.operands, ∀ y, ev T x = .o (.v y) → a x = y) → (∀ f, a (.func f) = .func (.func f) #[] #[]) → (∀ k r F, M k = some (.fact r F) → F w) → (execOp a o).run P w = .ok (.value z) w

def val (x : Value) : Upd := ⟨.o (.v x), [], []⟩
def cmpI (op : BinOp) (a b : Int) : Option Bool :=
  match op with
  | .eql => some (a == b)
  | .neq => some (a != b)
  | .lss => some (decide (a < b))
  | .leq => some (decide (a ≤ b))
  | .gtr => some (decide (b < a))
  | .geq => some (decide (b ≤ a))
  | _ => none
def arI (op : BinOp) (k : IntKind) (a b : Int) : Option Int :=
  match op with
  | .add => some (k.wrap (a + b))
  | .sub => some (k.wrap (a - b))
  | .mul => some (k.wrap (a * b))
  | .and => some (bits .and k a b)
  | .or => some (bits .or k a b)
  | .xor => some (bits .xor k a b)
  | _ => none

def binEff (op : BinOp) (k : IntKind) (a : Int) (k' : IntKind) (b : Int) (fb : Eff) : Eff :=
  match op with
  | .shl => .ok (0 ≤ b) (val (.int k (k.wrap (a * 2 ^ (min b.toNat k.bits)))))
  | .shr => .ok (0 ≤ b) (val (.int k (a.fdiv (2 ^ (min b.toNat k.bits)))))
  | .quo => .ok (k = k' ∧ b ≠ 0) (val (.int k (k.wrap (a.tdiv b))))
  | .rem => .ok (k = k' ∧ b ≠ 0) (val (.int k (a.tmod b)))
  | _ => match cmpI op a b with
    | some c => .ok (k = k') (val (.bool c))
    | none => match arI op k a b with
      | some c => .ok (k = k') (val (.int k c))
      | none => fb

def fnEff : Fn → List Operand → Option (List Nat) → Eff
  | .func f, [], some ks => .ok True ⟨.o (.fn f ks), [], []⟩
  | _, _, _ => .fail
def hdrLoad : Ent → Nat → Bool → Eff
  | .hdr cs, off, false => .ok (off < cs.length) ⟨.o (cs.getD off .any), [], []⟩
  | _, _, _ => .fail
def loadEff (P : Program) (M : MemF) (ty : TypeId) (k off : Nat) : Eff :=
  match M k, tsz P ty, aggT P ty with
  | some e, some sz, some g => match e.cells with
    | some cs => match g with
      | true => .ok (off + sz ≤ cs.length ∧ 0 < sz) (val (.agg ((cs.drop off).take sz).toArray))
      | false => .ok (off < cs.length) (val (cs.getD off undef))
    | none => hdrLoad e off g
  | _, _, _ => .fail

def storeEff (P : Program) (M : MemF) (ty : TypeId) (k off : Nat) (z : Value) : Eff :=
  match M k, tsz P ty with
  | some (.box cs), some sz => .ok (off + sz ≤ cs.length ∧ z.cells.toList.length = sz ∧ z.cells.toList.all Value.oneCell' = true)
      ⟨.o .any, [], [(k, .box (cs.take off ++ z.cells.toList ++ cs.drop (off + sz)))]⟩
  | some (.row e s n cs), some sz => .ok (off + sz ≤ cs.length ∧ z.cells.toList.length = sz ∧ z.cells.toList.all Value.oneCell' = true)
      ⟨.o .any, [], [(k, .row e s n (cs.take off ++ z.cells.toList ++ cs.drop (off + sz)))]⟩
  | some (.hdr cs), some sz => .ok (sz = 1 ∧ off < cs.length ∧ z.oneCell' = true) ⟨.o .any, [], [(k, .hdr (cs.set off (.v z)))]⟩
  | _, _ => .fail
def storeRef (P : Program) (M : MemF) (ty : TypeId) (k off : Nat) (a : A0) : Eff :=
  match M k, tsz P ty with
  | some (.box cs), some sz => .ok (sz = 1 ∧ off < cs.length) ⟨.o .any, [], [(k, .hdr ((cs.map A0.v).set off a))]⟩
  | some (.hdr cs), some sz => .ok (sz = 1 ∧ off < cs.length) ⟨.o .any, [], [(k, .hdr (cs.set off a))]⟩
  | _, _ => .fail
def storeA (P : Program) (M : MemF) (ty : TypeId) (k off : Nat) : A0 → Eff
  | .v z => storeEff P M ty k off z
  | .p k' o' => storeRef P M ty k off (.p k' o')
  | .s k' o' n => storeRef P M ty k off (.s k' o' n)
  | .r k' n => storeRef P M ty k off (.r k' n)
  | .fn f ks => storeRef P M ty k off (.fn f ks)
  | .any => .fail
/-- A variable's box. -/
def boxEff (id : Nat) : A0 → Eff
  | .v y => .ok (y.cells.toList.all Value.oneCell' = true) ⟨.o (.p id 0), [(id, .box y.cells.toList)], []⟩
  | .p k' o' => .ok True ⟨.o (.p id 0), [(id, .hdr [.p k' o'])], []⟩
  | .s k' o' n => .ok True ⟨.o (.p id 0), [(id, .hdr [.s k' o' n])], []⟩
  | .r k' n => .ok True ⟨.o (.p id 0), [(id, .hdr [.r k' n])], []⟩
  | .fn f ks => .ok True ⟨.o (.p id 0), [(id, .hdr [.fn f ks])], []⟩
  | .any => .fail
/-- What a function value captures: boxes. -/
def boxKs (T : Nat → AV) : List Operand → Option (List Nat)
  | [] => some []
  | x :: l => match ev T x, boxKs T l with
    | .o (.p k 0), some ks => some (k :: ks)
    | _, _ => none

def sliceEff (k off : Nat) (sz len : Nat) (lo hi mx : Option AV) : Eff :=
  match lo, hi, mx with
  | none, none, none => .ok True ⟨.o (.s k off len), [], []⟩
  | none, some (.o (.v (.int _ h))), none => .ok (0 ≤ h ∧ h ≤ len) ⟨.o (.s k off h.toNat), [], []⟩
  | some (.o (.v (.int _ l))), none, none => .ok (0 ≤ l ∧ l ≤ len) ⟨.o (.s k (off + l.toNat * sz) (len - l.toNat)), [], []⟩
  | some (.o (.v (.int _ l))), some (.o (.v (.int _ h))), none => .ok (0 ≤ l ∧ l ≤ h ∧ h ≤ len) ⟨.o (.s k (off + l.toNat * sz) (h.toNat - l.toNat)), [], []⟩
  | none, some (.o (.v (.int _ h))), some (.o (.v (.int _ m))) => .ok (0 ≤ h ∧ h ≤ m ∧ m ≤ len) ⟨.o (.s k off h.toNat), [], []⟩
  | _, _, _ => .fail

/-- A slice of n against nil: an empty one may be either. -/
def nilEff (op : BinOp) (s : Option Nat) (n : Nat) : Eff := match s with
  | some _ => match op with
    | .eql => .nd fun b => b = true → n = 0
    | .neq => .nd fun b => b = false → n = 0
    | _ => .fail
  | none => .fail
def binOn (P : Program) (T : Nat → AV) (bop : BinOp) (ty : TypeId) (x y : Operand) (ty' : TypeId) : AV → AV → Eff
  | .o (.v (.int k a)), .o (.v (.int k' b)) => binEff bop k a k' b (.ex (pureOp P T (.binOp bop ty x y ty')))
  | .o (.s _ _ n), .o (.v (.slice none 0 0)) => nilEff bop (slI P ty) n
  | .o (.r _ n), .o (.v (.slice none 0 0)) => nilEff bop (slI P ty) n
  | _, _ => .ex (pureOp P T (.binOp bop ty x y ty'))

def opEff (P : Program) (T : Nat → AV) (M : MemF) (id : Nat) (op : Op) : Eff :=
  match op with
  | .move x => .ok True ⟨ev T x, [], []⟩
  | .assign x => .ok True ⟨ev T x, [], []⟩
  | .pick c a b => match ev T c with
    | .o (.v (.bool true)) => .ok True ⟨ev T a, [], []⟩
    | .o (.v (.bool false)) => .ok True ⟨ev T b, [], []⟩
    | _ => .fail
  | .alloc e => match zcells P e with
    | some zs => .ok (zs.all Value.oneCell' = true) ⟨.o (.p id 0), [(id, .box zs)], []⟩
    | none => .fail
  | .box _ x => match ev T x with
    | .o y => boxEff id y
    | _ => .fail
  | .buildSlice t len parts => match mkI P t, plains T parts.toList with
    | some m, some ps => match bsCells len m.size m.zero ps with
      | some cs => .ok (cs.toList.length = len * m.size ∧ cs.toList.all Value.oneCell' = true ∧ len * m.size ≤ 16777216 ∧ len ≤ 16777216 ∧ m.zero.length = m.size) ⟨.o (.r id len), [(id, .row m.e m.size len cs.toList)], []⟩
      | none => .fail
    | some _, none => .raw
    | _, _ => .fail
  | .makeSlice t l c => match mkI P t, ev T l, ev T c with
    | some m, .o (.v (.int _ n)), .o (.v (.int _ n')) => .ok (n = n' ∧ 0 ≤ n ∧ m.bytes * n.toNat ≤ 281474976710656 ∧ n ≤ 9223372036854775807 ∧ m.zero.length = m.size ∧ m.zero.all Value.oneCell' = true)
        ⟨.o (.r id n.toNat), [(id, .row m.e m.size n.toNat (madeCells m.zero.toArray (n.toNat * m.size)).toList)], []⟩
    | _, _, _ => .fail
  | .load ty x => match ev T x with
    | .o (.p k off) => loadEff P M ty k off
    | .o (.v _) => .raw
    | _ => .fail
  | .store ty x y => match ev T x, ev T y with
    | .o (.p k off), .o z => storeA P M ty k off z
    | _, _ => .fail
  | .indexAddr ty x i => match ev T x, ev T i with
    | .o (.p k off), .o (.v (.int _ j)) => match arrI P ty with
      | some (n, s) => .ok (0 ≤ j ∧ j < n) ⟨.o (.p k (off + j.toNat * s)), [], []⟩
      | none => .fail
    | .o (.s k off len), .o (.v (.int _ j)) => match slI P ty with
      | some s => .ok (0 ≤ j ∧ j < len) ⟨.o (.p k (off + j.toNat * s)), [], []⟩
      | none => .fail
    | .o (.r k n), .o (.v (.int _ j)) => match slI P ty with
      | some s => .ok (0 ≤ j ∧ j < n) ⟨.o (.p k (j.toNat * s)), [], []⟩
      | none => .fail
    | .o (.v _), .o (.v _) => .raw
    | _, _ => .fail
  | .fieldAddr ty x f => match ev T x, fldI P ty f with
    | .o (.p k off), some (d, s) => .ok (s ≠ 0) ⟨.o (.p k (off + d)), [], []⟩
    | _, _ => .fail
  | .slice ty x lo hi mx => match ev T x with
    | .o (.p k off) => match arrI P ty with
      | some (n, s) => sliceEff k off s n (lo.map (ev T)) (hi.map (ev T)) (mx.map (ev T))
      | none => .fail
    | .o (.s k off len) => match slI P ty with
      | some s => sliceEff k off s len (lo.map (ev T)) (hi.map (ev T)) (mx.map (ev T))
      | none => .fail
    | .o (.r k n) => match slI P ty with
      | some s => sliceEff k 0 s n (lo.map (ev T)) (hi.map (ev T)) (mx.map (ev T))
      | none => .fail
    | .o (.v _) => .raw
    | _ => .fail
  | .sliceToArrayPointer ty x => match ev T x, arrI P ty with
    | .o (.s k off len), some (n, _) => .ok (n ≤ len ∧ 0 < len) ⟨.o (.p k off), [], []⟩
    | _, _ => .fail
  | .extract x i => match ev T x with
    | .t l => .ok (i < l.length) ⟨.o (l.getD i .any), [], []⟩
    | _ => .fail
  | .binOp bop ty x y ty' => binOn P T bop ty x y ty' (ev T x) (ev T y)
  | .unOp uop _ x => match uop, ev T x with
    | .not, .o (.v (.bool b)) => .ok True (val (.bool (!b)))
    | .neg, .o (.v (.int k n)) => .ok True (val (.int k (k.wrap (0 - n))))
    | _, _ => .fail
  | .convert src dst x => match ev T x, P.underlying src, intT P dst with
    | .o (.v (.int _ n)), some _, some k => .ok True (val (.int k (k.wrap n)))
    | _, _, _ => .ex (pureOp P T (.convert src dst x))
  | .call c => match c.callee with
    | .value (.func f) => .call f (c.args.toList.map (ev T))
    | .value (.tmp i) => match T i with
      | .o (.fn f ks) => .clo f (c.args.toList.map (ev T) ++ ks.map fun k => .o (.p k 0))
      | _ => .fail
    | .builtin .len => match c.args.toList, c.argTypes.toList with
      | [x], [ty] => match ev T x, slI P ty with
        | .o (.s _ _ len), some _ => .ok True (val (.int .i64 len))
        | .o (.r _ n), some _ => .ok True (val (.int .i64 n))
        | _, _ => .ex (pureOp P T (.call c))
      | _, _ => .fail
    | .builtin .append => match c.args.toList, c.argTypes.toList with
      | [x, y], [ty, ty'] => match mkI P ty with
        | some m => match sliceCells M m.size (ev T y) with
          | some (q, news) => match ev T x with
            | .o (.r k _) => match M k with
              | some (.row e sz n xs) => .ok (ty = ty' ∧ e = m.e ∧ sz = m.size ∧ 0 < sz ∧ m.zero.length = sz ∧ news.length = q * sz ∧ (n + q) * m.bytes ≤ 140737488355328 ∧ n + q ≤ 9223372036854775807)
                  ⟨.o (.r id (n + q)), [(id, .row e sz (n + q) (xs ++ news))], [(k, .dead)]⟩
              | _ => .fail
            | .o (.v (.slice none 0 0)) => .ok (ty = ty' ∧ 0 < m.size ∧ m.zero.length = m.size ∧ news.length = q * m.size ∧ q * m.bytes ≤ 140737488355328 ∧ q ≤ 9223372036854775807)
                  ⟨.o (.r id q), [(id, .row m.e m.size q news)], []⟩
            | _ => .fail
          | none => .fail
        | none => .fail
      | _, _ => .fail
    | _ => .ex (pureOp P T (.call c))
  | .build t parts => match plains T parts.toList with
    | some _ => .ex (pureOp P T (.build t parts))
    | none => .raw
  | .index t x i => .ex (pureOp P T (.index t x i))
  | .field t x f => .ex (pureOp P T (.field t x f))
  | .makeFunc fn first cap => fnEff fn first.toList (boxKs T cap.toList)
  | .nilCheck x => match ev T x with
    | .o (.p k off) => .ok True ⟨.o (.p k off), [], []⟩
    | _ => .fail
  | _ => .fail

/-- The cells that a pointer to a box shows. -/
def boxCells (M : MemF) : AV → Option (List Value)
  | .o (.p k off) => match M k with
    | some e => match e.cells with
      | some cs => some (cs.drop off)
      | none => none
    | none => none
  | _ => none
/-- What is known of the memory says F. -/
def ents (M : MemF) (rt : Bool) (F : World → Prop) : Prop := ∀ w, (∀ k r F0, M k = some (.fact r F0) → (rt = true → r = true) → F0 w) → F w
theorem ents_of {M : MemF} {rt r : Bool} {F F0 : World → Prop} (k : Nat) (hk : M k = some (.fact r F0)) (hr : rt = true → r = true) (h : ∀ w, F0 w → F w) : ents M rt F := fun w hw => h w (hw k r F0 hk hr)
theorem ents.and {M : MemF} {rt : Bool} {F G : World → Prop} (h : ents M rt F) (h2 : ents M rt G) : ents M rt fun w => F w ∧ G w := fun w hw => ⟨h w hw, h2 w hw⟩
theorem ents.mono {M : MemF} {rt : Bool} {F G : World → Prop} (h : ents M rt F) (h2 : ∀ w, F w → G w) : ents M rt G := fun w hw => h2 w (h w hw)
def argMatch (M : MemF) : AV → Arg → Prop
  | .o (.v x), .val y => x = y
  | .o (.v x), .fa y F => x = y ∧ ents M false F
  | x, .bx xs => boxCells M x = some xs
  | .o (.fn f []), .fv f' => f = f'
  | x, .sl n size xs => sliceCells M size x = some (n, xs) ∧ xs.length = n * size
  | .o (.r k _), .mv e size n xs => M k = some (.row e size n xs)
  | .o (.r k _), .io e size n xs _ => M k = some (.row e size n xs)
  | .o (.p k off), .ib xs ys => off = 0 ∧ M k = some (.box xs) ∧ xs.isEmpty = false ∧ ys.isEmpty = false
  | _, _ => False
def argsMatch (M : MemF) : List AV → List Arg → Prop
  | [], [] => True
  | x :: l, a :: as => argMatch M x a ∧ argsMatch M l as
  | _, _ => False
def resA (id : Nat) : Res → A0
  | .val x => .v x
  | .fa _ => .any
  | .row _ _ n _ => .r id n
  | .view n _ _ => .s id 0 n
  | .part n _ _ => .s id 0 n
def resE (id : Nat) : Res → Mem
  | .val _ => []
  | .fa _ => []
  | .row e size n xs => [(id, .row e size n xs)]
  | .view _ _ xs => [(id, .view true xs)]
  | .part _ _ xs => [(id, .box xs)]
def ressA : Nat → List Res → List A0
  | _, [] => []
  | id, r :: rs => resA id r :: ressA (id + 1) rs
def ressE : Nat → List Res → Mem
  | _, [] => []
  | id, r :: rs => resE id r ++ ressE (id + 1) rs
def packA : List A0 → AV
  | [a] => .o a
  | l => .t l
def movedE : List AV → List Arg → Mem
  | .o (.r k _) :: l, .mv .. :: as => (k, .dead) :: movedE l as
  | .o (.r k _) :: l, .io e size n _ ys :: as => (k, .row e size n ys) :: movedE l as
  | .o (.p k _) :: l, .ib _ ys :: as => (k, .box ys) :: movedE l as
  | _ :: l, _ :: as => movedE l as
  | _, _ => []

def refs : List AV → List Nat
  | [] => []
  | .o (.s k _ _) :: l => k :: refs l
  | .o (.r k _) :: l => k :: refs l
  | .o (.p k _) :: l => k :: refs l
  | _ :: l => refs l
def apartIds (args : List AV) (as : List Arg) : Prop := movedE args as = [] ∨ (refs args).Nodup

def callOK (P : Program) (M : MemF) (id : Nat) (f : Nat) (args : List AV) (u : Upd) : Prop :=
  ∃ as rs, Contract P f as rs ∧ argsMatch M args as ∧ rs.length ≤ 4 ∧ apartIds args as ∧ u = ⟨packA (ressA id rs), ressE id rs, movedE args as⟩

def OpOK (P : Program) (T : Nat → AV) (M : MemF) (id : Nat) (op : Op) (u : Upd) : Prop :=
  match opEff P T M id op with
  | .fail => False
  | .ok c u' => c ∧ u = u'
  | .ex S => ∃ z, S z ∧ u = val z
  | .call f args => callOK P M id f args u
  | .clo f args => callOK P M id f args u
  | .nd _ => False
  | .raw => ∃ z, factOp P T M op z ∧ u = val z
end Go.Sx
namespace Go.Sx

structure SatS (w0 : Base) (ρ : Nat → Loc) (T : Nat → AV) (M : MemF) (N : Nat) (a : Act) (w : World) : Prop where
  below : Fr w0.w w w0.own
  mem : SatM w0 ρ M w
  slot : ∀ i, Den ρ M (T i) (a.tmps.getD i undef)
  size : a.tmps.size = N
  defers : a.defers = w0.df

section
variable {P : Program} {w0 : Base} {ρ : Nat → Loc} {T : Nat → AV} {M : MemF} {N : Nat} {a : Act} {w : World} {id : Nat} {o : Oper} {u : Upd}
  {K : Act → World → Prop} {Q : Exit → Act → World → Prop}

theorem SatS.eval (h : SatS w0 ρ T M N a w) (x : Operand) : Den ρ M (ev T x) (a.eval x) := by
  cases x with
  | tmp i => exact h.slot i
  | const v => exact rfl
  | global g => trivial
  | func f => exact ⟨fun _ h => (by cases h), rfl⟩
theorem SatS.evv (h : SatS w0 ρ T M N a w) {x : Operand} {y : Value} (hx : ev T x = .o (.v y)) : a.eval x = y := by
  have := h.eval x
  rw [hx] at this
  exact this

/-- What is to be shown of the rest, once an operation has left y. -/
def Goes (w0 : Base) (ρ : Nat → Loc) (M : MemF) (id : Nat) (u : Upd) (K : Value → World → Prop) : Prop :=
  ∀ y w' ρ', (∀ k, Out id k → ρ' k = ρ k) → SatM w0 ρ' (applyM M u) w' → Fr w0.w w' w0.own → Den ρ' (applyM M u) u.r y → K y w'

theorem pure_step (h : SatS w0 ρ T M N a w) {y : Value} (hrun : (execOp a.eval o).run P w = .ok (.value y) w) {r : AV} (hd : Den ρ M r y)
    (hK : Goes w0 ρ M id ⟨r, [], []⟩ fun y w' => K (a.put o.dst y) w') : o.wp P a w K Q := by
  unfold Oper.wp
  rw [hrun, Oper.upon_value]
  refine hK y w ρ (fun _ _ => rfl) ?_ h.below ?_
  · rw [applyM_nil]; exact h.mem
  · rw [applyM_nil]; exact hd

theorem SatM.add (h : SatM w0 ρ M w) {w' : World} (f : Fr w w' fun _ => False) (hid : ∀ k, (M k).isSome = true → Out id k) (l : Loc) (e : Ent)
    (he : EntSat w0.own l w' e) (hb : ∀ b, e.blk l = some b → w.heap.size ≤ b) (r : AV) (hh : ∀ cs, e = .hdr cs → HdrOK ρ M l w' cs := by intro _ h; cases h) (hs : ∀ j l', e ≠ .sav j l' := by intro _ _ h; cases h) (hf : ∀ rt F, e = .fact rt F → ∀ w', Fr w0.w w' (w0.st rt) → F w' := by intro _ _ h; cases h) :
    SatM w0 (fun k => if k = id then l else ρ k) (applyM M ⟨r, [(id, e)], []⟩) w' := by
  have key : ∀ k e', applyM M ⟨r, [(id, e)], []⟩ k = some e' → (k = id ∧ e' = e) ∨ (Out id k ∧ M k = some e') := by
    intro k e' hk
    simp only [applyM, Mem.get] at hk
    by_cases hki : k = id
    · simp [hki] at hk; exact .inl ⟨hki, hk.symm⟩
    · simp only [hki, if_false] at hk
      cases hM : M k with
      | none => simp [hM] at hk
      | some e0 => simp [hM] at hk; exact .inr ⟨hid k (by simp [hM]), by rw [hk]⟩
  have hl : ∀ k, (M k).isSome = true → (applyM M ⟨r, [(id, e)], []⟩ k).isSome = true ∧ (fun k => if k = id then l else ρ k) k = ρ k := fun k hk => ⟨live_applyM hk, by simp [(hid k hk).ne]⟩
  refine ⟨?_, ?_, ?_, ?_, ?_⟩
  · intro k e' hk
    rcases key k e' hk with ⟨rfl, rfl⟩ | ⟨hlt, hM⟩
    · simpa using he
    · simp only [hlt.ne, if_false]
      exact (h.ent k e' hM).frame f (fun _ _ x => x)
  · intro k cs hk
    rcases key k _ hk with ⟨rfl, rfl⟩ | ⟨hlt, hM⟩
    · intro j a hj
      obtain ⟨y, h1, h2, h3⟩ := hh cs rfl j a hj
      exact ⟨y, by simpa using h1, h2, h3.mono hl⟩
    · exact h.hdr_keep f hl hM (fun _ _ x => x)
  · intro k j l' hk
    rcases key k _ hk with ⟨rfl, rfl⟩ | ⟨hlt, hM⟩
    · exact absurd rfl (hs j l')
    · exact h.sav_keep hl hM
  · intro k e1 k' e2 h1 ho h2 hne
    rcases key k e1 h1 with ⟨rfl, rfl⟩ | ⟨hlt, hM⟩
    · rcases key k' e2 h2 with ⟨rfl, rfl⟩ | ⟨hlt', hM'⟩
      · exact absurd rfl hne
      · simp only [if_true, hlt'.ne, if_false]
        cases hbk : e1.blk l with
        | none => exact .inl rfl
        | some b =>
          refine .inr fun hc => ?_
          have := (h.ent k' e2 hM').lt hc.symm
          have := hb b hbk
          omega
    · rcases key k' e2 h2 with ⟨rfl, rfl⟩ | ⟨hlt', hM'⟩
      · simp only [if_true, hlt.ne, if_false]
        cases hbk : e1.blk (ρ k) with
        | none => exact .inl rfl
        | some b =>
          refine .inr fun hc => ?_
          have := (h.ent k e1 hM).lt hbk
          have := hb b hc.symm
          omega
      · simp only [hlt.ne, hlt'.ne, if_false]
        exact h.apart k e1 k' e2 hM ho hM' hne
  · intro k rt F hk
    rcases key k _ hk with ⟨rfl, rfl⟩ | ⟨hlt, hM⟩
    · exact hf rt F rfl
    · exact h.fct k rt F hM

theorem applyM_new (M : MemF) (r : AV) (e : Ent) (wr : Mem) : ((applyM M ⟨r, [(id, e)], wr⟩) id).isSome = true := by simp [applyM, Mem.get]

theorem box_step (h : SatS w0 ρ T M N a w) (hid : ∀ k, (M k).isSome = true → Out id k) {cs : List Value} {ty : TypeId} (h1 : cs.all Value.oneCell' = true)
    (hrun : (execOp a.eval o).run P w = .ok (.value (.pointer (some ⟨w.heap.size, 0, none⟩))) (w.alloc (.cells cs.toArray ty)))
    (hK : Goes w0 ρ M id ⟨.o (.p id 0), [(id, .box cs)], []⟩ fun y w' => K (a.put o.dst y) w') : o.wp P a w K Q := by
  unfold Oper.wp
  rw [hrun, Oper.upon_value]
  have hsz := w0.new _ h.below.size
  refine hK _ _ (fun k => if k = id then ⟨⟨w.heap.size, 0, none⟩, undef⟩ else ρ k) (fun k hk => by simp [hk.ne]) ?_ ?_ ?_
  · refine h.mem.add (Fr.alloc w _ _) hid ⟨⟨w.heap.size, 0, none⟩, undef⟩ (.box cs) ⟨by simpa using h1, fun _ => ⟨w.heap.size, ty, _, rfl, hsz, heap_alloc_new w _, by simp⟩⟩ ?_ _
    intro b hb
    simp only [Ent.blk] at hb
    split at hb
    · cases hb
    · simp at hb
      omega
  · exact (Fr.alloc w _ (fun _ => False)).below h.below (fun _ x => x.elim)
  · exact ⟨applyM_new M _ _ _, by simp [Addr.add]⟩

theorem den_row {B : Nat} {e size n : Nat} {xs : List Value} {y : Value} {l : Loc} {w : World} (hown : w.ownsRow B e size y n xs) (hv : l.v = y) (ha : ∀ g m c, y = .slice (some g) m c → l.a = g) :
    y = l.v ∧ ∃ o cap, y = .slice o n cap ∧ n ≤ cap ∧ (n = 0 ∨ o = some l.a) ∧ (o = none → cap = 0) := by
  refine ⟨hv.symm, ?_⟩
  rcases hown.2 with ⟨rfl, rfl⟩ | ⟨g, cap, cur, rfl, _, _, hnc, _⟩
  · exact ⟨none, 0, rfl, Nat.le_refl _, .inl rfl, fun _ => rfl⟩
  · exact ⟨_, cap, rfl, hnc, .inr (by rw [ha _ _ _ rfl]), by simp⟩

theorem row_step (h : SatS w0 ρ T M N a w) (hid : ∀ k, (M k).isSome = true → Out id k) {e size n : Nat} {xs : List Value} {y : Value} {w' : World} (h1 : xs.all Value.oneCell' = true)
    (hrun : (execOp a.eval o).run P w = .ok (.value y) w') (f : Fr w w' fun _ => False) (hown : w'.ownsRow w.heap.size e size y n xs)
    (hK : Goes w0 ρ M id ⟨.o (.r id n), [(id, .row e size n xs)], []⟩ fun y w' => K (a.put o.dst y) w') : o.wp P a w K Q := by
  unfold Oper.wp
  rw [hrun, Oper.upon_value]
  have hsz := h.below.size
  have hb := f.below h.below (fun _ x => x.elim)
  have hown' : w'.ownsRow 0 e size y n xs := ⟨hown.1, hown.2.imp (fun x => x) fun ⟨g, cap, cur, hv, hg, r⟩ => ⟨g, cap, cur, hv, Nat.zero_le _, r⟩⟩
  refine hK _ _ (fun k => if k = id then ⟨(match y with | .slice (some g) _ _ => g | _ => default), y⟩ else ρ k) (fun k hk => by simp [hk.ne]) ?_ hb ?_
  · refine h.mem.add f hid ⟨(match y with | .slice (some g) _ _ => g | _ => default), y⟩ (.row e size n xs) ⟨hown', fun g m c hv => by simp only [] at hv; subst hv; rfl, by simpa using h1, fun b hb => w0.new b (Nat.le_trans hsz (hown.lt b hb).1)⟩ ?_ _
    intro b hb
    exact (hown.lt b hb).1
  · refine ⟨applyM_new M _ _ _, den_row hown (by simp) ?_⟩
    intro g m c hy
    subst hy
    simp

/-- An entry is written. -/
theorem SatM.write (h : SatM w0 ρ M w) {w' : World} {bs : Nat → Prop} (f : Fr w w' bs) {k : Nat} {e0 e : Ent} (hk : M k = some e0) (ho : e0.own = true)
    (hbs : ∀ b, bs b → e0.blk (ρ k) = some b) (he : EntSat w0.own (ρ k) w' e) (hb : e.blk (ρ k) = e0.blk (ρ k)) (r : AV) (hh : ∀ cs, e = .hdr cs → HdrOK ρ M (ρ k) w' cs := by intro _ h; cases h) (hs : ∀ j l', e ≠ .sav j l' := by intro _ _ h; cases h) (hf : ∀ rt F, e ≠ .fact rt F := by intro _ _ h; cases h) :
    SatM w0 ρ (applyM M ⟨r, [], [(k, e)]⟩) w' := by
  have key : ∀ j e', applyM M ⟨r, [], [(k, e)]⟩ j = some e' → (j = k ∧ e' = e) ∨ (j ≠ k ∧ M j = some e') := by
    intro j e' hj
    simp only [applyM, Mem.get] at hj
    by_cases hjk : j = k
    · subst hjk; simp [hk] at hj; exact .inl ⟨rfl, hj.symm⟩
    · cases hM : M j with
      | none => simp [hM] at hj
      | some e1 => simp [hM, hjk] at hj; exact .inr ⟨hjk, by rw [hj]⟩
  have hl : ∀ j, (M j).isSome = true → (applyM M ⟨r, [], [(k, e)]⟩ j).isSome = true ∧ ρ j = ρ j := fun j hj => ⟨live_applyM hj, rfl⟩
  have hap : ∀ j e', j ≠ k → M j = some e' → ∀ b, e'.blk (ρ j) = some b → ¬ bs b := by
    intro j e' hne hM b hb' hbb
    rcases h.apart k e0 j e' hk (own_fresh ho) hM (Ne.symm hne) with hn | hn
    · rw [hbs b hbb] at hn; cases hn
    · exact hn (by rw [hbs b hbb, hb'])
  refine ⟨?_, ?_, ?_, ?_, fun j rt F hj => (key j _ hj).elim (fun h' => absurd h'.2.symm (hf rt F)) (fun h' => h.fct j rt F h'.2)⟩
  rotate_left
  · intro j cs hj
    rcases key j _ hj with ⟨rfl, rfl⟩ | ⟨hne, hM⟩
    · intro i a hi
      obtain ⟨y, h1, h2, h3⟩ := hh cs rfl i a hi
      exact ⟨y, h1, h2, h3.mono hl⟩
    · exact h.hdr_keep f hl hM (hap j _ hne hM)
  · intro j i l' hj
    rcases key j _ hj with ⟨rfl, rfl⟩ | ⟨hne, hM⟩
    · exact absurd rfl (hs i l')
    · exact h.sav_keep hl hM
  rotate_left
  · intro j e' hj
    rcases key j e' hj with ⟨rfl, rfl⟩ | ⟨hne, hM⟩
    · exact he
    · refine (h.ent j e' hM).frame f (fun b hb' hbb => ?_)
      rcases h.apart k e0 j e' hk (own_fresh ho) hM (Ne.symm hne) with hn | hn
      · rw [hbs b hbb] at hn; cases hn
      · exact hn (by rw [hbs b hbb, hb'])
  · intro j e1 j' e2 h1 ho1 h2 hne
    rcases key j e1 h1 with ⟨rfl, rfl⟩ | ⟨hne1, hM1⟩
    · rcases key j' e2 h2 with ⟨rfl, rfl⟩ | ⟨hne2, hM2⟩
      · exact absurd rfl hne
      · rw [hb]; exact h.apart j e0 j' e2 hk (own_fresh ho) hM2 hne
    · rcases key j' e2 h2 with ⟨rfl, rfl⟩ | ⟨hne2, hM2⟩
      · rw [hb]; exact h.apart j e1 j' e0 hM1 ho1 hk hne
      · exact h.apart j e1 j' e2 hM1 ho1 hM2 hne

theorem EntSat.own_at {B : Nat → Prop} {l : Loc} {e : Ent} {cs : List Value} (h : EntSat B l w e) (ho : e.own = true) (hc : e.cells = some cs) (hne : cs ≠ []) :
    ∃ b ty cur, l.a = ⟨b, 0, none⟩ ∧ e.blk l = some b ∧ w.heap[b]? = some (.cells cur ty (0, 0)) ∧ cur.toList.take cs.length = cs := by
  cases e with
  | box cs' =>
    simp only [Ent.cells, Option.some.injEq] at hc
    subst hc
    have hne' : cs'.isEmpty = false := by cases cs' with | nil => exact absurd rfl hne | cons _ _ => rfl
    obtain ⟨b, ty, cur, ha, _, hh, ht⟩ := h.2 hne'
    exact ⟨b, ty, cur, ha, by simp [Ent.blk, ha, hne'], hh, ht⟩
  | row e size n xs =>
    simp only [Ent.cells, Option.some.injEq] at hc
    subst hc
    obtain ⟨h1, h2, _⟩ := h
    have hl := h1.1
    rcases h1.2 with ⟨hv, hn⟩ | ⟨g, cap, cur, hv, _, hh, _, _, _, ht⟩
    · subst hn; simp at hl; exact absurd hl hne
    · exact ⟨g, e, cur, h2 _ _ _ hv, by simp [Ent.blk, hv, Value.ownBlock], hh, by rw [hl]; exact ht⟩
  | hdr cs' => simp [Ent.cells] at hc
  | view fr xs => simp [Ent.own] at ho
  | sav j l' => simp [Ent.own] at ho
  | fact rt F => simp [Ent.own] at ho
  | dead => simp [Ent.own] at ho

def Ent.put (cs : List Value) : Ent → Ent
  | .box _ => .box cs
  | .row e s n _ => .row e s n cs
  | e => e

theorem splice_take (cur cs zs : List Value) (off : Nat) (ht : cur.take cs.length = cs) (hf : off + zs.length ≤ cs.length) :
    (cur.take off ++ zs ++ cur.drop (off + zs.length)).take cs.length = cs.take off ++ zs ++ cs.drop (off + zs.length) := by
  have hl : cs.length ≤ cur.length := by
    have := congrArg List.length ht
    simp at this
    omega
  rw [← ht]
  apply List.ext_getElem?
  intro j
  simp only [List.getElem?_take, List.getElem?_append, List.length_take, List.getElem?_drop, List.length_append]
  grind

theorem EntSat.put {B : Nat → Prop} {l : Loc} {e : Ent} {cs zs : List Value} (h : EntSat B l w e) (ho : e.own = true) (hc : e.cells = some cs) (hne : cs ≠ []) {off : Nat} (hf : off + zs.length ≤ cs.length)
    (h1 : ∀ u ∈ zs, u.oneCell' = true) {b : Nat} {ty : TypeId} {cur : Array Value} (ha : l.a = ⟨b, 0, none⟩) (hh : w.heap[b]? = some (.cells cur ty (0, 0))) :
    EntSat B l (w.setRow b (cur.toList.take off ++ zs ++ cur.toList.drop (off + zs.length)).toArray) (e.put (cs.take off ++ zs ++ cs.drop (off + zs.length))) := by
  cases e with
  | box cs' =>
    simp only [Ent.cells, Option.some.injEq] at hc
    subst hc
    have hne' : cs'.isEmpty = false := by cases cs' with | nil => exact absurd rfl hne | cons _ _ => rfl
    obtain ⟨b', ty', cur', ha', hB, hh', ht⟩ := h.2 hne'
    have h1' := h.1
    have hbb : b' = b := by rw [ha] at ha'; simpa using ha'.symm
    subst hbb
    rw [hh] at hh'
    simp only [Option.some.injEq, Obj.cells.injEq] at hh'
    obtain ⟨rfl, rfl, _⟩ := hh'
    refine ⟨?_, fun _ => ⟨b', ty, _, ha, hB, setRow_heap w b' _ _ ty _ hh, ?_⟩⟩
    rotate_left
    · have hlen : (cs'.take off ++ zs ++ cs'.drop (off + zs.length)).length = cs'.length := by
        simp only [List.length_append, List.length_take, List.length_drop]; omega
      rw [hlen]
      exact splice_take _ _ _ _ ht hf
    intro u hu
    simp only [List.mem_append] at hu
    rcases hu with (hu | hu) | hu
    · exact h1' u (List.mem_of_mem_take hu)
    · exact h1 u hu
    · exact h1' u (List.mem_of_mem_drop hu)
  | row e size n xs =>
    simp only [Ent.cells, Option.some.injEq] at hc
    subst hc
    obtain ⟨hown, h2, h1', hO⟩ := h
    have hl := hown.1
    rcases hown.2 with ⟨hv, hn⟩ | ⟨g, cap, cur', hv, hg, hh', hnc, hcm, hcs, ht⟩
    · subst hn; simp at hl; exact absurd hl hne
    · have := h2 _ _ _ hv
      rw [ha] at this
      simp only [Addr.mk.injEq, and_true] at this
      subst this
      rw [hh] at hh'
      simp only [Option.some.injEq, Obj.cells.injEq] at hh'
      obtain ⟨rfl, rfl, _⟩ := hh'
      refine ⟨⟨?_, .inr ⟨b, cap, _, hv, hg, setRow_heap w b _ _ ty _ hh, hnc, hcm, ?_, ?_⟩⟩, h2, ?_, hO⟩
      · simp only [List.length_append, List.length_take, List.length_drop]; omega
      · simp only [List.size_toArray, List.length_append, List.length_take, List.length_drop, Array.length_toList]
        have : n * size ≤ cap * size := Nat.mul_le_mul_right _ hnc
        omega
      · rw [← hl] at ht ⊢
        exact splice_take _ _ _ _ ht hf
      · intro u hu
        simp only [List.mem_append] at hu
        rcases hu with (hu | hu) | hu
        · exact h1' u (List.mem_of_mem_take hu)
        · exact h1 u hu
        · exact h1' u (List.mem_of_mem_drop hu)
  | hdr cs' => simp [Ent.cells] at hc
  | view fr xs => simp [Ent.own] at ho
  | sav j l' => simp [Ent.own] at ho
  | fact rt F => simp [Ent.own] at ho
  | dead => simp [Ent.own] at ho

theorem Ent.put_blk (e : Ent) {cs cs0 : List Value} (l : Loc) (ho : e.own = true) (hc : e.cells = some cs0) (hl : cs.length = cs0.length) : (e.put cs).blk l = e.blk l := by
  cases e with
  | box cs1 =>
    simp only [Ent.cells, Option.some.injEq] at hc
    subst hc
    simp only [Ent.put, Ent.blk]
    have : cs.isEmpty = cs1.isEmpty := by
      cases cs <;> cases cs1 <;> simp at hl ⊢
    rw [this]
  | row => rfl
  | hdr cs' => simp [Ent.cells] at hc
  | view => simp [Ent.own] at ho
  | sav j l' => simp [Ent.own] at ho
  | fact rt F => simp [Ent.own] at ho
  | dead => simp [Ent.own] at ho

end
end Go.Sx
namespace Go.Sx
section
variable {P : Program} {w0 : Base} {ρ : Nat → Loc} {T : Nat → AV} {M : MemF} {N : Nat} {a : Act} {w : World} {id : Nat} {o : Oper}
  {K : Act → World → Prop} {Q : Exit → Act → World → Prop}

theorem tsz_info {t : TypeId} {n : Nat} (h : tsz P t = some n) : ∃ i, P.info? t = some i ∧ i.size = n := by
  unfold tsz at h
  cases hi : P.info? t with
  | none => simp [hi] at h
  | some i => simp [hi] at h; exact ⟨i, rfl, h⟩

theorem run_sizeOf' {t : TypeId} {n : Nat} (h : tsz P t = some n) (w : World) : (sizeOf t).run P w = .ok n w := by
  obtain ⟨i, hi, hn⟩ := tsz_info h
  simp [sizeOf, typeInfo, hi, hn]

theorem run_isAgg' {t : TypeId} {g : Bool} (h : aggT P t = some g) (w : World) : (isAgg t).run P w = .ok g w := by
  unfold aggT at h
  cases hu : P.underlying t with
  | none => simp [hu] at h
  | some d => simp [hu] at h; subst h; cases d <;> simp [isAgg, run_underlying hu, aggD]

theorem load_op {ty : TypeId} {x : Operand} {k off : Nat} {c : Prop} {u : Upd} (h : SatS w0 ρ T M N a w) (hop : o.op = .load ty x) (hx : ev T x = .o (.p k off))
    (he : loadEff P M ty k off = .ok c u) (hc : c) (hK : Goes w0 ρ M id u fun y w' => K (a.put o.dst y) w') : o.wp P a w K Q := by
  unfold loadEff at he
  split at he
  · rename_i e sz g hM hsz hg
    have hv := h.eval x
    rw [hx] at hv
    obtain ⟨_, hv⟩ := hv
    have hs := h.mem.ent k e hM
    split at he
    · rename_i cs hcs
      have hone := hs.one hcs
      cases g with
      | true =>
        simp only [Eff.ok.injEq] at he
        obtain ⟨rfl, rfl⟩ := he
        obtain ⟨hf, hp⟩ := hc
        have hr := hs.reads hcs (by intro e0; subst e0; simp at hf; omega)
        have hlen : ((cs.drop off).take sz).length = sz := by simp; omega
        have hl := run_loadCells_list (P := P) w (((ρ k).a).add off) ((cs.drop off).take sz) (fun j v hj => by
          rw [addr_add_add]
          refine hr (off + j) v ?_
          rw [List.getElem?_take] at hj
          split at hj
          · rwa [List.getElem?_drop] at hj
          · cases hj)
        rw [hlen] at hl
        refine pure_step h (y := .agg ((cs.drop off).take sz).toArray) (r := .o (.v (.agg ((cs.drop off).take sz).toArray))) ?_ (by rfl) hK
        simp [execOp, hop, hv, Instr.loadAt, Instr.sureAddr, loadVar, run_isAgg' hg, run_sizeOf' hsz, hl]
      | false =>
        simp only [Eff.ok.injEq] at he
        obtain ⟨rfl, rfl⟩ := he
        have hr := hs.reads hcs (by intro e0; subst e0; simp at hc)
        have hcell := hr off (cs.getD off undef) (by simp [List.getD, List.getElem?_eq_getElem hc])
        refine pure_step h (y := cs.getD off undef) (r := .o (.v (cs.getD off undef))) ?_ (by rfl) hK
        simp only [execOp, hop, hv, Instr.loadAt, Instr.sureAddr, loadVar, Sem.run_bind, Sem.run_pure, Result.andThen_ok, run_isAgg' hg]
        simp [hcell]
    · unfold hdrLoad at he
      split at he
      · rename_i cs hce
        simp only [Eff.ok.injEq] at he
        obtain ⟨rfl, rfl⟩ := he
        obtain ⟨y, hcell, _, hd⟩ := h.mem.hdr k cs hM off (cs.getD off .any) (by simp [List.getD, List.getElem?_eq_getElem hc])
        refine pure_step h (y := y) (r := .o (cs.getD off .any)) ?_ hd hK
        simp only [execOp, hop, hv, Instr.loadAt, Instr.sureAddr, loadVar, Sem.run_bind, Sem.run_pure, Result.andThen_ok, run_isAgg' hg]
        simp [hcell]
      · cases he
  · cases he

theorem one_cells {v : Value} (h : v.oneCell' = true) : v.cells.toList = [v] ∧ v.cells.size = 1 := by
  cases v <;> first | exact ⟨rfl, rfl⟩ | (simp [Value.oneCell'] at h)
theorem den_one {x : A0} {y : Value} (h : Den0 ρ M x y) (hx : (∃ z, x = .v z ∧ z.oneCell' = true) ∨ (x ≠ .any ∧ ∀ z, x ≠ .v z)) : y.oneCell' = true := by
  cases x with
  | v z =>
    rcases hx with ⟨z', h1, h2⟩ | ⟨_, h1⟩
    · cases h1; rw [show y = z from h]; exact h2
    · exact absurd rfl (h1 z)
  | p k off => rw [h.2]; rfl
  | s k off len => obtain ⟨_, o, cap, hy, _⟩ := h; rw [hy]; rfl
  | r k n => obtain ⟨_, _, o, cap, hy, _⟩ := h; rw [hy]; rfl
  | fn f ks => rw [h.2]; rfl
  | any =>
    rcases hx with ⟨z', h1, _⟩ | ⟨h1, _⟩
    · cases h1
    · exact absurd rfl h1

/-- One cell of a box is written: the box may point then. -/
theorem poke_op {ty : TypeId} {x y : Operand} {k off : Nat} {q : A0} {e0 : Ent} {cs : List A0} (h : SatS w0 ρ T M N a w) (hop : o.op = .store ty x y) (hx : ev T x = .o (.p k off)) (hy : ev T y = .o q)
    (h1 : (∃ z, q = .v z ∧ z.oneCell' = true) ∨ (q ≠ .any ∧ ∀ z, q ≠ .v z)) (hsz : tsz P ty = some 1) (hM : M k = some e0) (hc : e0 = .hdr cs ∨ ∃ zs, e0 = .box zs ∧ cs = zs.map A0.v) (hf : off < cs.length)
    (hK : Goes w0 ρ M id ⟨.o .any, [], [(k, .hdr (cs.set off q))]⟩ fun y w' => K (a.put o.dst y) w') : o.wp P a w K Q := by
  have hv := h.eval x
  rw [hx] at hv
  obtain ⟨_, hv⟩ := hv
  have hd := h.eval y
  rw [hy] at hd
  have hd : Den0 ρ M q (a.eval y) := hd
  have hone := den_one hd h1
  generalize hz : a.eval y = z at hd hone
  have hne : cs.isEmpty = false := by cases cs with | nil => simp at hf | cons _ _ => rfl
  have hs := h.mem.ent k e0 hM
  obtain ⟨b, t', cur, ha, hB, hh, hlen, hold, hbk, how⟩ : ∃ b t' cur, (ρ k).a = ⟨b, 0, none⟩ ∧ w0.own b ∧ w.heap[b]? = some (.cells cur t' (0, 0)) ∧ cs.length ≤ cur.size ∧
      (∀ j a', cs[j]? = some a' → ∃ y, cur[j]? = some y ∧ y.oneCell' = true ∧ Den0 ρ M a' y) ∧ e0.blk (ρ k) = some b ∧ e0.own = true := by
    rcases hc with rfl | ⟨zs, rfl, rfl⟩
    · obtain ⟨b, t', cur, ha, hB, hh, hlen⟩ := hs hne
      refine ⟨b, t', cur, ha, hB, hh, hlen, fun j a' hj => ?_, by simp only [Ent.blk, hne, ha]; rfl, rfl⟩
      obtain ⟨y, h1, h2, h3⟩ := h.mem.hdr k cs hM j a' hj
      rw [ha, Addr.add_lit, cell_of_row w b _ _ t' (0, 0) hh] at h1
      exact ⟨y, by simpa using h1, h2, h3⟩
    · have hne' : zs.isEmpty = false := by cases zs with | nil => simp at hf | cons _ _ => rfl
      obtain ⟨b, t', cur, ha, hB, hh, ht⟩ := hs.2 hne'
      have hlen : zs.length ≤ cur.size := by
        have := congrArg List.length ht
        simp at this
        omega
      refine ⟨b, t', cur, ha, hB, hh, by simpa using hlen, fun j a' hj => ?_, by simp only [Ent.blk, hne', ha]; rfl, rfl⟩
      rw [List.getElem?_map, Option.map_eq_some_iff] at hj
      obtain ⟨z', hz', rfl⟩ := hj
      refine ⟨z', ?_, hs.1 z' (List.mem_of_getElem? hz'), rfl⟩
      rw [← ht, List.getElem?_take] at hz'
      split at hz'
      · simpa using hz'
      · cases hz'
  obtain ⟨c1, c2⟩ := one_cells hone
  have hcur : off < cur.size := by omega
  have hst := run_storeCells_at P b off t' [z] 0 cur w hh (by simp; omega) (by simpa using hone)
  unfold Oper.wp
  have hrun : (execOp a.eval o).run P w = .ok .skip (w.setRow b (cur.toList.take off ++ [z] ++ cur.toList.drop (off + 1)).toArray) := by
    simp only [Nat.add_zero] at hst
    simp [execOp, hop, hv, hz, Instr.storeAt, Instr.sureAddr, storeVar, run_sizeOf' hsz, c1, c2, ha, Addr.add_lit, hst]
  rw [hrun, Oper.upon_skip]
  have hfr := Fr.setRow w b (cur.toList.take off ++ [z] ++ cur.toList.drop (off + 1)).toArray
  have hh' := setRow_heap w b cur (cur.toList.take off ++ [z] ++ cur.toList.drop (off + 1)).toArray t' (0, 0) hh
  have hlen' : (cur.toList.take off ++ [z] ++ cur.toList.drop (off + 1)).length = cur.size := by simp; omega
  have hat : ∀ j, (cur.toList.take off ++ [z] ++ cur.toList.drop (off + 1))[j]? = if j = off then some z else cur[j]? := by
    intro j
    have e1 : cur.toList.take off ++ [z] ++ cur.toList.drop (off + 1) = cur.toList.set off z := by
      rw [List.set_eq_take_append_cons_drop, if_pos (by simpa using hcur)]
      simp
    rw [e1, List.getElem?_set]
    by_cases hj : off = j
    · subst hj; simp [hcur]
    · simp [hj, Ne.symm hj]
  refine hK _ _ ρ (fun _ _ => rfl) ?_ (hfr.below h.below (fun j hj => by subst hj; exact hB)) trivial
  refine h.mem.write hfr hM how (fun j hj => by subst hj; exact hbk) ?_ ?_ _ ?_
  · intro _
    exact ⟨b, t', _, ha, hB, hh', by simp only [List.size_toArray, List.length_set, hlen']; exact hlen⟩
  · rw [hbk]
    have : (cs.set off q).isEmpty = false := by cases cs with | nil => simp at hf | cons x xs => cases off <;> rfl
    simp only [Ent.blk, this, ha]
    rfl
  · intro cs' he
    cases he
    intro j a' hj
    rw [ha, Addr.add_lit, cell_of_row _ b _ _ t' (0, 0) hh']
    rw [List.getElem?_toArray, hat, Nat.zero_add]
    rw [List.getElem?_set] at hj
    by_cases hjo : off = j
    · subst hjo
      simp only [if_true, hf] at hj
      simp only [Option.some.injEq] at hj
      subst hj
      exact ⟨z, by simp, hone, hd⟩
    · simp only [hjo, if_false] at hj
      rw [if_neg (Ne.symm hjo)]
      exact hold j a' hj

theorem store_op {ty : TypeId} {x y : Operand} {k off : Nat} {z : Value} {c : Prop} {u : Upd} (h : SatS w0 ρ T M N a w) (hop : o.op = .store ty x y) (hx : ev T x = .o (.p k off)) (hy : ev T y = .o (.v z))
    (he : storeEff P M ty k off z = .ok c u) (hc : c) (hK : Goes w0 ρ M id u fun y w' => K (a.put o.dst y) w') : o.wp P a w K Q := by
  have hv := h.eval x
  rw [hx] at hv
  obtain ⟨_, hv⟩ := hv
  have hz := h.evv hy
  have main : ∀ (e : Ent) (cs : List Value) (sz : Nat), M k = some e → e.own = true → e.cells = some cs → tsz P ty = some sz → off + sz ≤ cs.length → z.cells.toList.length = sz → z.cells.toList.all Value.oneCell' = true →
      u = ⟨.o .any, [], [(k, e.put (cs.take off ++ z.cells.toList ++ cs.drop (off + sz)))]⟩ → o.wp P a w K Q := by
    intro e cs sz hM ho hcs hsz hf hl h1 hu
    subst hu
    have hs := h.mem.ent k e hM
    by_cases hne : cs = []
    · subst hne
      simp at hf
      obtain ⟨rfl, rfl⟩ := hf
      have hz0 : z.cells.toList = [] := List.eq_nil_of_length_eq_zero hl
      unfold Oper.wp
      have hrun : (execOp a.eval o).run P w = .ok .skip w := by
        have : z.cells.size = 0 := by simpa using hl
        simp [execOp, hop, hv, hz, Instr.storeAt, Instr.sureAddr, storeVar, run_sizeOf' hsz, this, hz0, storeCells]
      rw [hrun, Oper.upon_skip]
      have hself : e.put [] = e := by cases e <;> simp_all [Ent.put, Ent.cells]
      have happ : applyM M ⟨.o .any, [], [(k, e.put (List.take 0 ([] : List Value) ++ z.cells.toList ++ List.drop (0 + 0) []))]⟩ = M := by
        funext j
        simp only [applyM, Mem.get, hz0, List.take_nil, List.drop_nil, List.append_nil, hself]
        by_cases hj : j = k
        · subst hj; simp [hM]
        · cases hMj : M j <;> simp [hj]
      refine hK _ w ρ (fun _ _ => rfl) ?_ h.below trivial
      rw [happ]; exact h.mem
    · obtain ⟨b, t', cur, ha, hb, hh, _⟩ := hs.own_at ho hcs hne
      have hone : ∀ v ∈ z.cells.toList, v.oneCell' = true := List.all_eq_true.1 h1
      have hput := hs.put ho hcs hne (off := off) (zs := z.cells.toList) (by omega) hone ha hh
      have hcl : cs.length ≤ cur.size := by
        rename_i ht
        have := congrArg List.length ht
        simp at this
        omega
      have hst := run_storeCells_at P b off t' z.cells.toList 0 cur w hh (by omega) hone
      unfold Oper.wp
      have hrun : (execOp a.eval o).run P w = .ok .skip (w.setRow b (cur.toList.take off ++ z.cells.toList ++ cur.toList.drop (off + z.cells.toList.length)).toArray) := by
        have : z.cells.size = sz := by simpa using hl
        simp only [Nat.add_zero] at hst
        simp [execOp, hop, hv, hz, Instr.storeAt, Instr.sureAddr, storeVar, run_sizeOf' hsz, this, ha, Addr.add_lit, hst]
      rw [hrun, Oper.upon_skip]
      have hfr := Fr.setRow w b (cur.toList.take off ++ z.cells.toList ++ cur.toList.drop (off + z.cells.toList.length)).toArray
      refine hK _ _ ρ (fun _ _ => rfl) ?_ (hfr.below h.below (fun j hj => by subst hj; exact hs.ge ho hb)) trivial
      rw [hl] at hput hfr ⊢
      exact h.mem.write hfr hM ho (fun j hj => by subst hj; exact hb) hput (Ent.put_blk _ _ ho hcs (by simp only [List.length_append, List.length_take, List.length_drop]; omega)) _
        (by intro cs' he'; cases e <;> simp_all [Ent.put, Ent.cells]) (by intro j l' he'; cases e <;> simp_all [Ent.put, Ent.cells]) (by intro rt F he'; cases e <;> simp_all [Ent.put, Ent.cells])
  unfold storeEff at he
  split at he
  · rename_i cs sz hM hsz
    simp only [Eff.ok.injEq] at he
    obtain ⟨rfl, rfl⟩ := he
    exact main _ cs sz hM rfl rfl hsz hc.1 hc.2.1 hc.2.2 rfl
  · rename_i e s n cs sz hM hsz
    simp only [Eff.ok.injEq] at he
    obtain ⟨rfl, rfl⟩ := he
    exact main _ cs sz hM rfl rfl hsz hc.1 hc.2.1 hc.2.2 rfl
  · rename_i cs sz hM hsz
    simp only [Eff.ok.injEq] at he
    obtain ⟨rfl, rfl⟩ := he
    obtain ⟨rfl, hf, hz1⟩ := hc
    exact poke_op h hop hx hy (.inl ⟨z, rfl, hz1⟩) hsz hM (.inl rfl) hf hK
  · cases he
theorem storeRef_op {ty : TypeId} {x y : Operand} {k off : Nat} {q : A0} {c : Prop} {u : Upd} (h : SatS w0 ρ T M N a w) (hop : o.op = .store ty x y) (hx : ev T x = .o (.p k off)) (hy : ev T y = .o q) (hq : q ≠ .any ∧ ∀ z, q ≠ .v z)
    (he : storeRef P M ty k off q = .ok c u) (hc : c) (hK : Goes w0 ρ M id u fun y w' => K (a.put o.dst y) w') : o.wp P a w K Q := by
  unfold storeRef at he
  split at he
  · rename_i cs sz hM hsz
    simp only [Eff.ok.injEq] at he
    obtain ⟨rfl, rfl⟩ := he
    obtain ⟨rfl, hf⟩ := hc
    exact poke_op h hop hx hy (.inr hq) hsz hM (.inr ⟨cs, rfl, rfl⟩) (by simpa using hf) hK
  · rename_i cs sz hM hsz
    simp only [Eff.ok.injEq] at he
    obtain ⟨rfl, rfl⟩ := he
    obtain ⟨rfl, hf⟩ := hc
    exact poke_op h hop hx hy (.inr hq) hsz hM (.inl rfl) hf hK
  · cases he
theorem storeA_op {ty : TypeId} {x y : Operand} {k off : Nat} {q : A0} {c : Prop} {u : Upd} (h : SatS w0 ρ T M N a w) (hop : o.op = .store ty x y) (hx : ev T x = .o (.p k off)) (hy : ev T y = .o q)
    (he : storeA P M ty k off q = .ok c u) (hc : c) (hK : Goes w0 ρ M id u fun y w' => K (a.put o.dst y) w') : o.wp P a w K Q := by
  cases q with
  | v z => exact store_op h hop hx hy he hc hK
  | any => simp only [storeA] at he; cases he
  | _ => exact storeRef_op h hop hx hy ⟨(by intro h; cases h), (by intro _ h; cases h)⟩ he hc hK

theorem arrI_spec {t : TypeId} {n s : Nat} (h : arrI P t = some (n, s)) : ∃ e, P.underlying t = some (.array n e) ∧ tsz P e = some s := by
  unfold arrI at h
  cases hu : P.underlying t with
  | none => simp [hu] at h
  | some d =>
    rw [hu] at h
    simp only [Option.bind_some] at h
    unfold arrD at h
    split at h
    · rename_i n' e
      cases hs : tsz P e with
      | none => simp [hs] at h
      | some s' => simp [hs] at h; exact ⟨e, by rw [h.1], by rw [hs, h.2]⟩
    · cases h
theorem slI_spec {t : TypeId} {s : Nat} (h : slI P t = some s) : ∃ e, P.underlying t = some (.slice e) ∧ tsz P e = some s := by
  unfold slI at h
  cases hu : P.underlying t with
  | none => simp [hu] at h
  | some d =>
    rw [hu] at h
    simp only [Option.bind_some] at h
    unfold slD at h
    split at h
    · exact ⟨_, rfl, h⟩
    · cases h

theorem indexAddr_op {ty : TypeId} {x i : Operand} {c : Prop} {u : Upd} (h : SatS w0 ρ T M N a w) (hop : o.op = .indexAddr ty x i)
    (he : opEff P T M id (.indexAddr ty x i) = .ok c u) (hc : c) (hK : Goes w0 ρ M id u fun y w' => K (a.put o.dst y) w') : o.wp P a w K Q := by
  simp only [opEff] at he
  split at he
  · rename_i k off ki j hx hi
    have hv := h.eval x
    rw [hx] at hv
    obtain ⟨hl, hv⟩ := hv
    have hj := h.evv hi
    split at he
    · rename_i n s harr
      obtain ⟨e, hu, hs⟩ := arrI_spec harr
      simp only [Eff.ok.injEq] at he
      obtain ⟨rfl, rfl⟩ := he
      refine pure_step (r := .o (.p k (off + j.toNat * s))) h (y := .pointer (some ((ρ k).a.add (off + j.toNat * s)))) ?_ ⟨hl, rfl⟩ hK
      simp [execOp, hop, hv, hj, Instr.indexAt, asIntOf, run_underlying hu, Instr.sureAddr, hc, run_sizeOf' hs, addr_add_add]
    · cases he
  · rename_i k off len ki j hx hi
    have hv := h.eval x
    rw [hx] at hv
    obtain ⟨hl, o', cap, hv, hle, hor, _⟩ := hv
    have hj := h.evv hi
    split at he
    · rename_i s hsl
      obtain ⟨e, hu, hs⟩ := slI_spec hsl
      simp only [Eff.ok.injEq] at he
      obtain ⟨rfl, rfl⟩ := he
      have hpos : len ≠ 0 := by omega
      have ho' := hor.resolve_left hpos
      subst ho'
      refine pure_step (r := .o (.p k (off + j.toNat * s))) h (y := .pointer (some ((ρ k).a.add (off + j.toNat * s)))) ?_ ⟨hl, rfl⟩ hK
      simp [execOp, hop, hv, hj, Instr.indexAt, asIntOf, run_underlying hu, hc, run_sizeOf' hs, addr_add_add]
    · cases he
  · rename_i k n ki j hx hi
    have hv := h.eval x
    rw [hx] at hv
    obtain ⟨hl, _, o', cap, hv, hle, hor, _⟩ := hv
    have hj := h.evv hi
    split at he
    · rename_i s hsl
      obtain ⟨e, hu, hs⟩ := slI_spec hsl
      simp only [Eff.ok.injEq] at he
      obtain ⟨rfl, rfl⟩ := he
      have hpos : n ≠ 0 := by omega
      have ho' := hor.resolve_left hpos
      subst ho'
      refine pure_step (r := .o (.p k (j.toNat * s))) h (y := .pointer (some ((ρ k).a.add (j.toNat * s)))) ?_ ⟨hl, rfl⟩ hK
      simp [execOp, hop, hv, hj, Instr.indexAt, asIntOf, run_underlying hu, hc, run_sizeOf' hs]
    · cases he
  · cases he
  · cases he

theorem fieldAddr_op {ty : TypeId} {x : Operand} {f : Nat} {c : Prop} {u : Upd} (h : SatS w0 ρ T M N a w) (hop : o.op = .fieldAddr ty x f)
    (he : opEff P T M id (.fieldAddr ty x f) = .ok c u) (hc : c) (hK : Goes w0 ρ M id u fun y w' => K (a.put o.dst y) w') : o.wp P a w K Q := by
  simp only [opEff] at he
  split at he
  · rename_i k off d s hx hf
    have hv := h.eval x
    rw [hx] at hv
    obtain ⟨hl, hv⟩ := hv
    simp only [Eff.ok.injEq] at he
    obtain ⟨rfl, rfl⟩ := he
    unfold fldI at hf
    cases hu : P.underlying ty with
    | none => simp [hu] at hf
    | some td =>
      rw [hu] at hf
      simp only [Option.bind_some] at hf
      unfold fldD at hf
      split at hf
      · rename_i fs
        cases hfs : fs[f]? with
        | none => simp [hfs] at hf
        | some fl =>
          cases hs : tsz P fl.type with
          | none => simp [hfs, hs] at hf
          | some s' =>
            simp [hfs, hs] at hf
            obtain ⟨rfl, rfl⟩ := hf
            refine pure_step (r := .o (.p k (off + fl.offset))) h (y := .pointer (some ((ρ k).a.add (off + fl.offset)))) ?_ ⟨hl, rfl⟩ hK
            simp [execOp, hop, hv, Instr.fieldAt, run_underlying hu, hfs, Instr.sureAddr, fieldPlace, run_sizeOf' hs, hc, addr_add_add]
      · cases hf
  · cases he

theorem alloc_op {e : TypeId} {c : Prop} {u : Upd} (h : SatS w0 ρ T M N a w) (hid : ∀ k, (M k).isSome = true → Out id k) (hop : o.op = .alloc e)
    (he : opEff P T M id (.alloc e) = .ok c u) (hc : c) (hK : Goes w0 ρ M id u fun y w' => K (a.put o.dst y) w') : o.wp P a w K Q := by
  simp only [opEff] at he
  split at he
  · rename_i zs hz
    simp only [Eff.ok.injEq] at he
    obtain ⟨rfl, rfl⟩ := he
    unfold zcells at hz
    cases hi : P.info? e with
    | none => simp [hi] at hz
    | some i =>
      cases hzz : i.zero with
      | none => simp [hi, hzz] at hz
      | some z =>
        simp [hi, hzz] at hz
        subst hz
        refine box_step h hid (cs := z.cells.toList) (ty := e) hc ?_ hK
        simp [execOp, hop, Instr.alloc, zeroValue, typeInfo, hi, hzz, newVar, newRow]
  · cases he

theorem box_op {e : TypeId} {x : Operand} {c : Prop} {u : Upd} (h : SatS w0 ρ T M N a w) (hid : ∀ k, (M k).isSome = true → Out id k) (hop : o.op = .box e x)
    (he : opEff P T M id (.box e x) = .ok c u) (hc : c) (hK : Goes w0 ρ M id u fun y w' => K (a.put o.dst y) w') : o.wp P a w K Q := by
  simp only [opEff] at he
  have main : ∀ q : A0, ev T x = .o q → (q ≠ .any ∧ ∀ z, q ≠ .v z) → u = ⟨.o (.p id 0), [(id, .hdr [q])], []⟩ → o.wp P a w K Q := by
    intro q hx hq hu
    subst hu
    have hd := h.eval x
    rw [hx] at hd
    have hd : Den0 ρ M q (a.eval x) := hd
    have hone := den_one hd (.inr hq)
    generalize hz : a.eval x = z at hd hone
    obtain ⟨c1, c2⟩ := one_cells hone
    have c3 : z.cells = #[z] := by rw [← Array.toArray_toList (xs := z.cells), c1]
    have hrun : (execOp a.eval o).run P w = .ok (.value (.pointer (some ⟨w.heap.size, 0, none⟩))) (w.alloc (.cells #[z] e)) := by
      simp [execOp, hop, Instr.box, hz, newVar, newRow, c3]
    unfold Oper.wp
    rw [hrun, Oper.upon_value]
    have hsz := w0.new _ h.below.size
    refine hK _ _ (fun k => if k = id then ⟨⟨w.heap.size, 0, none⟩, undef⟩ else ρ k) (fun k hk => by simp [hk.ne]) ?_ ?_ ?_
    · refine h.mem.add (Fr.alloc w _ _) hid ⟨⟨w.heap.size, 0, none⟩, undef⟩ (.hdr [q]) (fun _ => ⟨w.heap.size, e, _, rfl, hsz, heap_alloc_new w _, by simp⟩) ?_ _ ?_
      · intro b hb
        simp only [Ent.blk] at hb
        split at hb
        · cases hb
        · simp at hb
          omega
      · intro cs' he'
        cases he'
        intro j a' hj
        cases j with
        | zero =>
          simp at hj
          subst hj
          refine ⟨z, ?_, hone, hd⟩
          rw [Addr.add_lit, cell_of_row _ w.heap.size _ _ e (0, 0) (heap_alloc_new w _)]
          simp
        | succ j => simp at hj
    · exact (Fr.alloc w _ (fun _ => False)).below h.below (fun _ x => x.elim)
    · exact ⟨applyM_new M _ _ _, by simp [Addr.add]⟩
  split at he
  · rename_i q hx
    cases q with
    | v y =>
      have hv := h.evv hx
      simp only [boxEff, Eff.ok.injEq] at he
      obtain ⟨rfl, rfl⟩ := he
      refine box_step h hid (cs := y.cells.toList) (ty := e) hc ?_ hK
      simp [execOp, hop, Instr.box, hv, newVar, newRow]
    | any => simp only [boxEff] at he; cases he
    | _ =>
      simp only [boxEff, Eff.ok.injEq] at he
      exact main _ hx ⟨(by intro h; cases h), (by intro _ h; cases h)⟩ he.2.symm
  · cases he

theorem boxKs_spec (h : SatS w0 ρ T M N a w) : ∀ {l : List Operand} {ks : List Nat}, boxKs T l = some ks → (∀ k ∈ ks, (M k).isSome = true) ∧ l.map a.eval = ks.map fun k => Value.pointer (some (ρ k).a)
  | [], ks, hp => by simp [boxKs] at hp; simp [hp]
  | x :: l, ks, hp => by
    simp only [boxKs] at hp
    split at hp
    · rename_i k ks' hx hks
      simp only [Option.some.injEq] at hp
      subst hp
      have hv := h.eval x
      rw [hx] at hv
      obtain ⟨hl, hv⟩ := hv
      obtain ⟨i1, i2⟩ := boxKs_spec h hks
      refine ⟨fun k' hk' => ?_, ?_⟩
      · rcases List.mem_cons.1 hk' with rfl | hk'
        · exact hl
        · exact i1 k' hk'
      · rw [List.map_cons, List.map_cons, i2, hv]
        simp [Addr.add]
    · cases hp
theorem makeFunc_op {fn : Fn} {first cap : Array Operand} {c : Prop} {u : Upd} (h : SatS w0 ρ T M N a w) (hop : o.op = .makeFunc fn first cap)
    (he : fnEff fn first.toList (boxKs T cap.toList) = .ok c u) (hK : Goes w0 ρ M id u fun y w' => K (a.put o.dst y) w') : o.wp P a w K Q := by
  unfold fnEff at he
  split at he
  · rename_i f ks hfirst hks
    simp only [Eff.ok.injEq] at he
    obtain ⟨rfl, rfl⟩ := he
    obtain ⟨h1, h2⟩ := boxKs_spec h hks
    have e1 : first = #[] := by rw [← Array.toArray_toList (xs := first), hfirst]
    have e2 : cap.map a.eval = (ks.map fun k => Value.pointer (some (ρ k).a)).toArray := by rw [← h2, ← Array.toList_map, Array.toArray_toList]
    refine pure_step h (y := .func (.func f) #[] (ks.map fun k => Value.pointer (some (ρ k).a)).toArray) (r := .o (.fn f ks)) ?_ ⟨h1, rfl⟩ hK
    simp [execOp, hop, Instr.makeFunc, e1, e2]
  · cases he

theorem mkI_spec {t : TypeId} {m : Mk} (h : mkI P t = some m) : ∃ i z, P.underlying t = some (.slice m.e) ∧ P.info? m.e = some i ∧ i.zero = some z ∧ i.size = m.size ∧ i.bytes = m.bytes ∧ z.cells.toList = m.zero := by
  unfold mkI at h
  cases hu : P.underlying t with
  | none => simp [hu] at h
  | some d =>
    rw [hu] at h
    simp only [Option.bind_some] at h
    unfold mkD at h
    split at h
    · rename_i e
      cases hi : P.info? e with
      | none => simp [hi] at h
      | some i =>
        cases hz : i.zero with
        | none => simp [hi, hz] at h
        | some z =>
          simp [hi, hz] at h
          subst h
          exact ⟨i, z, rfl, hi, hz, rfl, rfl, rfl⟩
    · cases h

theorem plains_spec (h : SatS w0 ρ T M N a w) : ∀ {l : List (Nat × Operand)} {ps : List (Nat × Value)}, plains T l = some ps → l.map (fun (i, x) => (i, a.eval x)) = ps
  | [], ps, hp => by simp [plains] at hp; simp [hp]
  | (i, x) :: l, ps, hp => by
    simp only [plains] at hp
    split at hp
    · rename_i y ys hy hys
      simp at hp
      subst hp
      have hx : ev T x = .o (.v y) := by
        unfold plain at hy
        split at hy
        · rename_i z hz; simp at hy; rw [hz, hy]
        · cases hy
      simp [h.evv hx, plains_spec h hys]
    · cases hp

theorem slice_fits {n : Nat} (h : n ≤ 16777216) : n ≤ maxLen := by simp only [maxLen]; omega

theorem buildSlice_op {t : TypeId} {len : Nat} {parts : Array (Nat × Operand)} {c : Prop} {u : Upd} (h : SatS w0 ρ T M N a w) (hid : ∀ k, (M k).isSome = true → Out id k) (hop : o.op = .buildSlice t len parts)
    (he : opEff P T M id (.buildSlice t len parts) = .ok c u) (hc : c) (hK : Goes w0 ρ M id u fun y w' => K (a.put o.dst y) w') : o.wp P a w K Q := by
  simp only [opEff] at he
  split at he
  · rename_i m ps hm hps
    split at he
    · rename_i cs hcs
      simp only [Eff.ok.injEq] at he
      obtain ⟨rfl, rfl⟩ := he
      obtain ⟨hl, h1, hb, hb', hzl⟩ := hc
      obtain ⟨i, z, hu, hi, hz, hsz, _, hzc⟩ := mkI_spec hm
      have hpp := plains_spec h hps
      have hown := World.ownsRow_lit (base := w.heap.size) (e := m.e) (size := m.size) w cs len (Nat.le_refl _) (slice_fits hb') (by simpa using hl)
      refine row_step h hid h1 ?_ (Fr.alloc w _ _) hown hK
      have hpa : (parts.map fun (i, x) => (i, a.eval x)).toList = ps := by simpa using hpp
      have hlim : ¬ (2 ^ 24 < len * m.size) := by omega
      unfold bsCells at hcs
      rw [← hzc] at hcs
      simp only [Array.toArray_toList] at hcs
      have hrz : ∀ f : Nat → Value, (Array.range 0).map f = #[] := fun f => by simp
      by_cases h0 : len * m.size = 0
      · rw [h0, hrz] at hcs
        simp only [execOp, hop, Instr.buildSlice, sizeOf, typeInfo, newRow, Sem.run_bind, Sem.run_ite, Sem.run_pure, run_program, run_newObj, Result.andThen_ok, run_underlying hu, hi, hsz, h0, hpa, hrz, hcs]
        simp
      · simp only [execOp, hop, Instr.buildSlice, sizeOf, typeInfo, newRow, zeroValue, Sem.run_bind, Sem.run_ite, Sem.run_pure, run_program, run_newObj, Result.andThen_ok, run_underlying hu, hi, hz, hsz, h0, hlim, hpa, hcs]
        simp
    · cases he
  · cases he
  · cases he

theorem makeSlice_op {t : TypeId} {l q : Operand} {c : Prop} {u : Upd} (h : SatS w0 ρ T M N a w) (hid : ∀ k, (M k).isSome = true → Out id k) (hop : o.op = .makeSlice t l q)
    (he : opEff P T M id (.makeSlice t l q) = .ok c u) (hc : c) (hK : Goes w0 ρ M id u fun y w' => K (a.put o.dst y) w') : o.wp P a w K Q := by
  simp only [opEff] at he
  split at he
  · rename_i m kl n kc n' hm hl hq
    have hvl := h.evv hl
    have hvq := h.evv hq
    simp only [Eff.ok.injEq] at he
    obtain ⟨rfl, rfl⟩ := he
    obtain ⟨rfl, h0, hb, h63, hzl, hone⟩ := hc
    obtain ⟨i, z, hu, hi, hz, hsz, hby, hzc⟩ := mkI_spec hm
    obtain ⟨k, rfl⟩ := Int.eq_ofNat_of_zero_le h0
    simp only [Int.toNat_natCast] at hb hK ⊢
    obtain ⟨w', hrun, hown, hg⟩ := run_make_full (P := P) w w.heap.size t m.e i z m.size hu hi hz hsz kl kc k (by rw [hby]; exact hb) (by simp only [maxLen]; omega) (Nat.le_refl _)
    have hzz : z.cells = m.zero.toArray := by rw [← hzc]
    rw [hzz] at hown
    have hd : w.drawn ≤ w'.drawn := by
      have h63' : (k : Int) ≤ 9223372036854775807 := by omega
      have h48 : ((i.bytes * k : Nat) : Int) ≤ 281474976710656 := by rw [hby]; omega
      rw [Int.natCast_mul] at h48
      have hr2 := run_make (P := P) w t m.e i z hu hi hz kl kc k k (by omega) (Int.le_refl _) h48 h63'
      rw [hrun] at hr2
      simp only [Result.ok.injEq] at hr2
      obtain ⟨_, rfl⟩ := hr2
      exact Nat.le_refl _
    refine row_step h hid ?_ ?_ ((Fr.of_grown hg hd).mono (fun _ x => by cases x)) hown hK
    · rw [List.all_eq_true] at hone ⊢
      intro v hv
      simp only [madeCells, Array.toList_map, List.mem_map] at hv
      obtain ⟨j, hj, rfl⟩ := hv
      have hjl : j < k * m.size := by simpa using hj
      have hpos : 0 < m.zero.length := by rw [hzl]; exact Nat.pos_of_ne_zero (fun e => by simp [e] at hjl)
      have hlt : j % m.zero.length < m.zero.length := Nat.mod_lt _ hpos
      simp only [List.size_toArray]
      rw [getElem!_pos m.zero.toArray _ (by simpa using hlt)]
      exact hone _ (by simp)
    · simp [execOp, hop, hvl, hvq, hrun]
  · cases he

end
end Go.Sx
namespace Go.Sx
section
variable {P : Program} {w0 : Base} {ρ : Nat → Loc} {T : Nat → AV} {M : MemF} {N : Nat} {a : Act} {w : World} {id : Nat} {o : Oper}
  {K : Act → World → Prop} {Q : Exit → Act → World → Prop}

theorem SatS.evo (h : SatS w0 ρ T M N a w) {lo : Option Operand} : ∀ {k : IntKind} {l : Int}, lo.map (ev T) = some (.o (.v (.int k l))) → lo.map a.eval = some (.int k l) := by
  intro k l hl
  cases lo with
  | none => simp at hl
  | some x => simp at hl; simp [h.evv hl]

/-- A slice expression over something that lies at ad, of length len and room cap. -/
theorem sliceBounds_run {isS : Bool} {len cap : Nat} (hcap : len ≤ cap) {k off sz : Nat} {lo hi mx : Option Operand} {c : Prop} {u : Upd} (h : SatS w0 ρ T M N a w)
    (he : sliceEff k off sz len (lo.map (ev T)) (hi.map (ev T)) (mx.map (ev T)) = .ok c u) (hc : c) :
    ∃ l hh m, (Instr.sliceBounds isS len cap (lo.map a.eval) (hi.map a.eval) (mx.map a.eval)).run P w = .ok (l, hh, m) w ∧ l ≤ hh ∧ hh ≤ len ∧ hh ≤ m ∧ m ≤ cap ∧ u = ⟨.o (.s k (off + l * sz) (hh - l)), [], []⟩ := by
  unfold sliceEff at he
  split at he
  · rename_i h1 h2 h3
    have e1 : lo = none := by simpa using h1
    have e2 : hi = none := by simpa using h2
    have e3 : mx = none := by simpa using h3
    subst e1 e2 e3
    simp only [Eff.ok.injEq] at he
    exact ⟨0, len, cap, by simp [Instr.sliceBounds], by omega, by omega, hcap, Nat.le_refl _, by rw [← he.2]; simp⟩
  · rename_i kh q h1 h2 h3
    have e1 : lo = none := by simpa using h1
    have e3 : mx = none := by simpa using h3
    have e2 := h.evo h2
    subst e1 e3
    simp only [Eff.ok.injEq] at he
    obtain ⟨rfl, rfl⟩ := he
    obtain ⟨q, rfl⟩ := Int.eq_ofNat_of_zero_le hc.1
    have : q ≤ cap := by omega
    exact ⟨0, q, cap, by simp [Instr.sliceBounds, e2, Instr.sliceBound, asIntOf, this], by omega, by omega, by omega, by omega, by simp⟩
  · rename_i kl q h1 h2 h3
    have e2 : hi = none := by simpa using h2
    have e3 : mx = none := by simpa using h3
    have e1 := h.evo h1
    subst e2 e3
    simp only [Eff.ok.injEq] at he
    obtain ⟨rfl, rfl⟩ := he
    obtain ⟨q, rfl⟩ := Int.eq_ofNat_of_zero_le hc.1
    have : q ≤ len := by omega
    exact ⟨q, len, cap, by simp [Instr.sliceBounds, e1, Instr.sliceBound, asIntOf, this], by omega, by omega, by omega, by omega, by simp⟩
  · rename_i kl ql kh qh h1 h2 h3
    have e3 : mx = none := by simpa using h3
    have e1 := h.evo h1
    have e2 := h.evo h2
    subst e3
    simp only [Eff.ok.injEq] at he
    obtain ⟨rfl, rfl⟩ := he
    obtain ⟨ql, rfl⟩ := Int.eq_ofNat_of_zero_le hc.1
    obtain ⟨qh, rfl⟩ := Int.eq_ofNat_of_zero_le (Int.le_trans hc.1 hc.2.1)
    have t1 : qh ≤ cap := by omega
    have t2 : ql ≤ qh := by omega
    exact ⟨ql, qh, cap, by simp [Instr.sliceBounds, e1, e2, Instr.sliceBound, asIntOf, t1, t2], by omega, by omega, by omega, by omega, by simp⟩
  · rename_i kh qh km qm h1 h2 h3
    have e1 : lo = none := by simpa using h1
    have e2 := h.evo h2
    have e3 := h.evo h3
    subst e1
    simp only [Eff.ok.injEq] at he
    obtain ⟨rfl, rfl⟩ := he
    obtain ⟨qh, rfl⟩ := Int.eq_ofNat_of_zero_le hc.1
    obtain ⟨qm, rfl⟩ := Int.eq_ofNat_of_zero_le (Int.le_trans hc.1 hc.2.1)
    have t1 : qm ≤ cap := by omega
    have t2 : qh ≤ qm := by omega
    exact ⟨0, qh, qm, by simp [Instr.sliceBounds, e2, e3, Instr.sliceBound, asIntOf, t1, t2], by omega, by omega, by omega, by omega, by simp⟩
  · cases he

theorem slice_op {ty : TypeId} {x : Operand} {lo hi mx : Option Operand} {c : Prop} {u : Upd} (h : SatS w0 ρ T M N a w) (hop : o.op = .slice ty x lo hi mx)
    (he : opEff P T M id (.slice ty x lo hi mx) = .ok c u) (hc : c) (hK : Goes w0 ρ M id u fun y w' => K (a.put o.dst y) w') : o.wp P a w K Q := by
  simp only [opEff] at he
  split at he
  · rename_i k off hx
    have hv := h.eval x
    rw [hx] at hv
    obtain ⟨hl, hv⟩ := hv
    split at he
    · rename_i n s harr
      obtain ⟨e, hu, hs⟩ := arrI_spec harr
      obtain ⟨l, hh, m, hrun, h1, h2, h3, h4, rfl⟩ := sliceBounds_run (P := P) (isS := false) (Nat.le_refl n) h he hc
      refine pure_step (r := .o (.s k (off + l * s) (hh - l))) h (y := .slice (some (if m = l then (ρ k).a.add off else (ρ k).a.add (off + l * s))) (hh - l) (m - l)) ?_ ⟨hl, _, _, rfl, by omega, ?_, by simp⟩ hK
      · simp [execOp, hop, hv, Instr.sliceAt, run_underlying hu, Instr.sureAddr, hrun, run_sizeOf' hs, addr_add_add]
      · by_cases hml : m = l
        · exact .inl (by omega)
        · exact .inr (by simp [hml])
    · cases he
  · rename_i k off len hx
    have hv := h.eval x
    rw [hx] at hv
    obtain ⟨hl, o', cap, hv, hle, hor, hnil⟩ := hv
    split at he
    · rename_i s hsl
      obtain ⟨e, hu, hs⟩ := slI_spec hsl
      obtain ⟨l, hh, m, hrun, h1, h2, h3, h4, rfl⟩ := sliceBounds_run (P := P) (isS := true) hle h he hc
      refine pure_step (r := .o (.s k (off + l * s) (hh - l))) h (y := .slice (if m = l then o' else o'.map (·.add (l * s))) (hh - l) (m - l)) ?_ ⟨hl, _, _, rfl, by omega, ?_, ?_⟩ hK
      · simp [execOp, hop, hv, Instr.sliceAt, Instr.slice, run_underlying hu, hrun, run_sizeOf' hs]
      · by_cases hml : m = l
        · exact .inl (by omega)
        · rcases hor with h0 | h0
          · exact .inl (by omega)
          · exact .inr (by simp [hml, h0, addr_add_add])
      · intro hn
        by_cases hml : m = l
        · omega
        · simp [hml] at hn
          have := hnil hn
          omega
    · cases he
  · rename_i k n hx
    have hv := h.eval x
    rw [hx] at hv
    obtain ⟨hl, _, o', cap, hv, hle, hor, hnil⟩ := hv
    split at he
    · rename_i s hsl
      obtain ⟨e, hu, hs⟩ := slI_spec hsl
      obtain ⟨l, hh, m, hrun, h1, h2, h3, h4, rfl⟩ := sliceBounds_run (P := P) (isS := true) hle h he hc
      refine pure_step (r := .o (.s k (0 + l * s) (hh - l))) h (y := .slice (if m = l then o' else o'.map (·.add (l * s))) (hh - l) (m - l)) ?_ ⟨hl, _, _, rfl, by omega, ?_, ?_⟩ hK
      · simp [execOp, hop, hv, Instr.sliceAt, Instr.slice, run_underlying hu, hrun, run_sizeOf' hs]
      · by_cases hml : m = l
        · exact .inl (by omega)
        · rcases hor with h0 | h0
          · exact .inl (by omega)
          · exact .inr (by simp [hml, h0])
      · intro hn
        by_cases hml : m = l
        · omega
        · simp [hml] at hn
          have := hnil hn
          omega
    · cases he
  · cases he
  · cases he

theorem sliceToArray_op {ty : TypeId} {x : Operand} {c : Prop} {u : Upd} (h : SatS w0 ρ T M N a w) (hop : o.op = .sliceToArrayPointer ty x)
    (he : opEff P T M id (.sliceToArrayPointer ty x) = .ok c u) (hc : c) (hK : Goes w0 ρ M id u fun y w' => K (a.put o.dst y) w') : o.wp P a w K Q := by
  simp only [opEff] at he
  split at he
  · rename_i k off len n s hx harr
    have hv := h.eval x
    rw [hx] at hv
    obtain ⟨hl, o', cap, hv, hle, hor, hnil⟩ := hv
    obtain ⟨e, hu, hs⟩ := arrI_spec harr
    simp only [Eff.ok.injEq] at he
    obtain ⟨rfl, rfl⟩ := he
    have ho' := hor.resolve_left (by omega)
    subst ho'
    refine pure_step (r := .o (.p k off)) h (y := .pointer (some ((ρ k).a.add off))) ?_ ⟨hl, rfl⟩ hK
    have : ¬ len < n := by omega
    simp [execOp, hop, hv, Instr.arrayAt, run_underlying hu, this]
  · cases he

theorem denL_getD : ∀ {l : List A0} {ys : List Value} (i : Nat), DenL ρ M l ys → i < l.length → ∃ y, ys[i]? = some y ∧ Den0 ρ M (l.getD i .any) y
  | a :: l, y :: ys, 0, h, _ => ⟨y, rfl, h.1⟩
  | a :: l, y :: ys, i + 1, h, hi => by simpa using denL_getD i h.2 (by simpa using hi)
  | [], _, i, _, hi => by simp at hi
  | _ :: _, [], _, h, _ => h.elim

theorem extract_op {x : Operand} {i : Nat} {c : Prop} {u : Upd} (h : SatS w0 ρ T M N a w) (hop : o.op = .extract x i)
    (he : opEff P T M id (.extract x i) = .ok c u) (hc : c) (hK : Goes w0 ρ M id u fun y w' => K (a.put o.dst y) w') : o.wp P a w K Q := by
  simp only [opEff] at he
  split at he
  · rename_i l hx
    have hv := h.eval x
    rw [hx] at hv
    obtain ⟨ys, hy, hl⟩ := hv
    simp only [Eff.ok.injEq] at he
    obtain ⟨rfl, rfl⟩ := he
    obtain ⟨y, hyi, hd⟩ := denL_getD i hl hc
    refine pure_step (r := .o (l.getD i .any)) h (y := y) ?_ hd hK
    simp [execOp, hop, hy, Instr.extract, hyi]
  · cases he

theorem pureOp_step {op : Op} {z : Value} (h : SatS w0 ρ T M N a w) (hop : o.op = op) (hz : pureOp P T op z) (hK : Goes w0 ρ M id (val z) fun y w' => K (a.put o.dst y) w') : o.wp P a w K Q :=
  pure_step (r := .o (.v z)) h (hz o a.eval w hop (fun _ _ _ hy => h.evv hy) (fun _ => rfl)) rfl hK

theorem eqGuard_ints (op : BinOp) (ty : TypeId) (x y : Operand) (k k' : IntKind) (p q : Int) (w : World) : (eqGuard op ty x y (.int k p) (.int k' q)).run P w = .ok () w := by
  cases op <;> simp [eqGuard]

theorem binOp_op {bop : BinOp} {ty ty' : TypeId} {x y : Operand} {k k' : IntKind} {p q : Int} {fb : Eff} {c : Prop} {u : Upd} (h : SatS w0 ρ T M N a w) (hop : o.op = .binOp bop ty x y ty')
    (hx : ev T x = .o (.v (.int k p))) (hy : ev T y = .o (.v (.int k' q))) (hfb : ∀ c u, fb ≠ .ok c u)
    (he : binEff bop k p k' q fb = .ok c u) (hc : c) (hK : Goes w0 ρ M id u fun y w' => K (a.put o.dst y) w') : o.wp P a w K Q := by
  have hvx := h.evv hx
  have hvy := h.evv hy
  have main : ∀ z, u = val z → (binOp bop ty (.int k p) (.int k' q)).run P w = .ok z w → o.wp P a w K Q := by
    intro z hu hr
    subst hu
    refine pure_step (r := .o (.v z)) h (y := z) ?_ rfl hK
    simp [execOp, hop, hvx, hvy, eqGuard_ints, hr]
  unfold binEff at he
  split at he
  · simp only [Eff.ok.injEq] at he
    obtain ⟨rfl, rfl⟩ := he
    refine main _ rfl ?_
    have : ¬ q < 0 := by omega
    simp [binOp, Op.shift, this]
  · simp only [Eff.ok.injEq] at he
    obtain ⟨rfl, rfl⟩ := he
    refine main _ rfl ?_
    have : ¬ q < 0 := by omega
    simp [binOp, Op.shift, this]
  · simp only [Eff.ok.injEq] at he
    obtain ⟨rfl, rfl⟩ := he
    obtain ⟨rfl, hq⟩ := hc
    refine main _ rfl ?_
    simp [binOp, Op.intDiv, hq]
  · simp only [Eff.ok.injEq] at he
    obtain ⟨rfl, rfl⟩ := he
    obtain ⟨rfl, hq⟩ := hc
    refine main _ rfl ?_
    simp [binOp, Op.intDiv, hq]
  · rename_i n1 n2 n3 n4
    split at he
    · rename_i cc hcc
      simp only [Eff.ok.injEq] at he
      obtain ⟨rfl, rfl⟩ := he
      subst hc
      refine main _ rfl ?_
      unfold cmpI at hcc
      split at hcc <;> first | (cases hcc; done) | (simp only [Option.some.injEq] at hcc; subst hcc; simp [binOp, Op.intCmp])
    · split at he
      · rename_i hc0 cc hcc
        simp only [Eff.ok.injEq] at he
        obtain ⟨rfl, rfl⟩ := he
        subst hc
        refine main _ rfl ?_
        unfold arI at hcc
        split at hcc <;> first | (cases hcc; done) | (simp only [Option.some.injEq] at hcc; subst hcc; simp [binOp, Op.intArith, intBits_and, intBits_or, intBits_xor])
      · exact absurd he (hfb _ _)

/-- What a slice argument shows, of its value. -/
theorem sliceCells_den {β : Type} {F : β → AV} {G : β → Value} {size : Nat} {x : β} {q : Nat} {news : List Value} (h : SatM w0 ρ M w) (hd : Den ρ M (F x) (G x)) (hs : sliceCells M size (F x) = some (q, news)) (hl : news.length = q * size) :
    (∀ v ∈ news, v.oneCell' = true) ∧ ((∃ ad c, G x = .slice (some ad) q c ∧ q ≤ c ∧ ∀ j v, news[j]? = some v → w.cell? (ad.add j) = some v) ∨ (G x = .slice none 0 0 ∧ q = 0 ∧ news = [])) := by
  have hv := hd
  unfold sliceCells at hs
  split at hs
  · rename_i k off len hx
    rw [hx] at hv
    obtain ⟨_, o', cap, hv, hle, hor, hnil⟩ := hv
    split at hs
    · rename_i e hM
      split at hs
      · rename_i cs hcs
        have hen := h.ent k e hM
        simp only [Option.some.injEq, Prod.mk.injEq] at hs
        obtain ⟨rfl, rfl⟩ := hs
        refine ⟨fun v hv => hen.one hcs v (List.mem_of_mem_drop (List.mem_of_mem_take hv)), ?_⟩
        by_cases h0 : len = 0
        · subst h0
          cases o' with
          | none => refine .inr ⟨?_, rfl, by simp⟩; rw [hv, hnil rfl]
          | some ad => exact .inl ⟨ad, cap, hv, by omega, by simp⟩
        · have ho := hor.resolve_left h0
          refine .inl ⟨(ρ k).a.add off, cap, by rw [hv, ho], hle, ?_⟩
          intro j v hj
          rw [addr_add_add]
          rw [List.getElem?_take] at hj
          split at hj
          · rw [List.getElem?_drop] at hj
            refine hen.reads hcs ?_ _ _ hj
            intro e0; subst e0; simp at hj
          · cases hj
      · cases hs
    · cases hs
  · rename_i k n0 hx
    rw [hx] at hv
    obtain ⟨_, hv, _⟩ := hv
    split at hs
    · rename_i e sz n xs hM
      split at hs
      · rename_i hsz
        simp only [Option.some.injEq, Prod.mk.injEq] at hs
        obtain ⟨rfl, rfl⟩ := hs
        have hen := h.ent k _ hM
        obtain ⟨h1, h2, h3⟩ := hen
        refine ⟨h3.1, ?_⟩
        rcases h1.2 with ⟨hvv, h0⟩ | ⟨g, cap, cur, hvv, _, _, hnc, _⟩
        · subst h0
          refine .inr ⟨by rw [hv, hvv], rfl, ?_⟩
          have := h1.1
          exact List.eq_nil_of_length_eq_zero (by simpa using this)
        · exact .inl ⟨⟨g, 0, none⟩, cap, by rw [hv, hvv], hnc, h1.cells (g := g) (by simp [hvv, Value.ownBlock])⟩
      · cases hs
    · cases hs
  · rename_i hx
    rw [hx] at hv
    simp only [Option.some.injEq, Prod.mk.injEq] at hs
    obtain ⟨rfl, rfl⟩ := hs
    exact ⟨by simp, .inr ⟨hv, rfl, rfl⟩⟩
  · cases hs

/-- append, and where its row lies. -/
theorem sliceCells_run {size : Nat} {x : Operand} {q : Nat} {news : List Value} (h : SatS w0 ρ T M N a w) (hs : sliceCells M size (ev T x) = some (q, news)) (hl : news.length = q * size) :
    (∀ v ∈ news, v.oneCell' = true) ∧ ((∃ ad c, a.eval x = .slice (some ad) q c ∧ q ≤ c ∧ ∀ j v, news[j]? = some v → w.cell? (ad.add j) = some v) ∨ (a.eval x = .slice none 0 0 ∧ q = 0 ∧ news = [])) :=
  sliceCells_den (F := ev T) (G := a.eval) h.mem (h.eval x) hs hl
theorem append_run (w : World) (base : Nat) {t ty e : TypeId} {i : TypeInfo} {z : Value} {size bytes : Nat} (ht : P.underlying t = some (.slice e)) (hi : P.info? e = some i) (hz : i.zero = some z)
    (hsize : i.size = size) (hby : i.bytes = bytes) (hzs : z.cells.size = size) (hsz : 0 < size)
    {v : Value} {n : Nat} {xs : List Value} (hown : w.ownsRow base e size v n xs)
    {y : Value} {q : Nat} {news : List Value} (hl : news.length = q * size) (h1 : ∀ u ∈ news, u.oneCell' = true)
    (hy : (∃ ad c, y = .slice (some ad) q c ∧ q ≤ c ∧ ∀ j v, news[j]? = some v → w.cell? (ad.add j) = some v) ∨ (y = .slice none 0 0 ∧ q = 0 ∧ news = []))
    (h63 : n + q ≤ maxLen) (hbytes : (n + q) * bytes ≤ 140737488355328) (hbase : base ≤ w.heap.size) :
    ∃ v' w', (Builtin.append_ #[t, t] ty #[v, y]).run P w = .ok v' w' ∧ w'.ownsRow base e size v' (n + q) (xs ++ news) ∧ Fr w w' (fun k => v.ownBlock = some k) ∧
      ∀ b, v'.ownBlock = some b → v.ownBlock = some b ∨ w.heap.size ≤ b := by
  rcases hy with ⟨ad, c, rfl, _, hnews⟩ | ⟨rfl, rfl, rfl⟩
  · obtain ⟨v', w', hr, ho, hg, hnil⟩ := run_append_own (P := P) w base t ty e i z size bytes ht hi hz hsize hby hzs hsz v n xs hown ad q c news hl hnews h1 h63 hbytes hbase
    have h63i : ((n + q : Nat) : Int) ≤ 9223372036854775807 := by simp only [maxLen] at h63; omega
    have hd : w.drawn ≤ w'.drawn ∧ ∀ b, v'.ownBlock = some b → v.ownBlock = some b ∨ w.heap.size ≤ b := by
      rcases hown.2 with ⟨rfl, rfl⟩ | ⟨g, cap, cur, rfl, hbg, hgg, hnc, hcm, hcs, htake⟩
      · by_cases hq : q = 0
        · subst hq
          obtain rfl : news = [] := List.length_eq_zero_iff.1 (by rw [hl, Nat.zero_mul])
          have hr2 : (Builtin.append_ #[t, t] ty #[.slice none 0 0, .slice (some ad) 0 c]).run P w = .ok (.slice none 0 0) w := by
            simp [Builtin.append_, run_underlying ht, sizeOf, typeInfo, hi, Builtin.lenOf, Builtin.firstCells, loadCells, loadCellsFrom]
          rw [hr] at hr2
          simp only [Result.ok.injEq] at hr2
          obtain ⟨rfl, rfl⟩ := hr2
          exact ⟨Nat.le_refl _, fun b hb => by simp [Value.ownBlock] at hb⟩
        · have hr2 := run_append_nil (P := P) w t ty e i z ht hi hz ad q c news (by rw [hsize]; exact hl) hnews (by omega) (by omega) (by rw [hby]; simp at hbytes; omega)
          rw [hr] at hr2
          simp only [Result.ok.injEq] at hr2
          obtain ⟨rfl, rfl⟩ := hr2
          refine ⟨Nat.le_succ _, fun b hb => ?_⟩
          simp [Value.ownBlock] at hb
          omega
      · by_cases hroom : n + q ≤ cap
        · have hfit : n * i.size + news.length ≤ cur.size := by rw [hl, hcs, hsize, ← Nat.add_mul]; exact Nat.mul_le_mul_right _ hroom
          have hr2 := run_append_room (P := P) w t ty e i ht hi g n cap cur hgg ad q c news (by rw [hsize]; exact hl) hnews h1 hroom hfit
          rw [hr] at hr2
          simp only [Result.ok.injEq] at hr2
          obtain ⟨rfl, rfl⟩ := hr2
          exact ⟨Nat.le_refl _, fun b hb => .inl hb⟩
        · have hr2 := run_append_grow (P := P) w t ty e i z ht hi hz ⟨g, 0, none⟩ n cap xs (by rw [hsize]; exact hown.1) (hown.cells (g := g) rfl) ad q c news (by rw [hsize]; exact hl) hnews (by omega) (by omega)
            (growslice_fits (by omega) (by rw [hby]; exact hbytes))
          rw [hr] at hr2
          simp only [Result.ok.injEq] at hr2
          obtain ⟨rfl, rfl⟩ := hr2
          refine ⟨Nat.le_succ _, fun b hb => ?_⟩
          simp [Value.ownBlock] at hb
          omega
    exact ⟨v', w', hr, ho, Fr.of_grown hg hd.1, hd.2⟩
  · refine ⟨v, w, run_append_owned_none (P := P) w base t ty e i size ht hi v n xs hown, by simpa using hown, Fr.refl _ _, fun b hb => .inl hb⟩

theorem blk_row (e s n : Nat) (xs : List Value) (l : Loc) : (Ent.row e s n xs).blk l = l.v.ownBlock := rfl
theorem blk_dead (l : Loc) : Ent.dead.blk l = none := rfl

theorem append_new {e sz n q n0 : Nat} {xs news : List Value} {k : Nat} {x y : Operand} {c : Call} {t : TypeId} {m : Mk} (h : SatS w0 ρ T M N a w) (hid : ∀ k, (M k).isSome = true → Out id k)
    (hop : o.op = .call c) (hcal : c.callee = .builtin .append) (hargs : c.args = #[x, y]) (htys : c.argTypes = #[t, t]) (hm : mkI P t = some m) (hx : ev T x = .o (.r k n0)) (hM : M k = some (.row e sz n xs))
    (hy : sliceCells M m.size (ev T y) = some (q, news)) (he : e = m.e) (hsz : sz = m.size) (hpos : 0 < sz) (hzl : m.zero.length = sz) (hl : news.length = q * sz) (hb : (n + q) * m.bytes ≤ 140737488355328) (h63 : n + q ≤ 9223372036854775807)
    (hK : Goes w0 ρ M id ⟨.o (.r id (n + q)), [(id, .row e sz (n + q) (xs ++ news))], [(k, .dead)]⟩ fun y w' => K (a.put o.dst y) w') : o.wp P a w K Q := by
  subst he hsz
  obtain ⟨i, z, hu, hi, hz, hsi, hby, hzc⟩ := mkI_spec hm
  have hv := h.eval x
  rw [hx] at hv
  obtain ⟨hlive, hv, _⟩ := hv
  have hen := h.mem.ent k _ hM
  have hen' := hen
  obtain ⟨hown, h2, h3, _⟩ := hen
  obtain ⟨hone, hyv⟩ := sliceCells_run h hy hl
  have hszB : 0 ≤ w.heap.size := Nat.zero_le _
  have hO := hen'.2.2.2
  have hklt := hid k hlive
  obtain ⟨v', w', hrun, hown', hfr, hblk⟩ := append_run (P := P) w 0 (ty := o.type) hu hi hz hsi hby (by rw [← Array.length_toList, hzc]; exact hzl) hpos hown hl hone hyv (by simp only [maxLen]; omega) hb hszB
  unfold Oper.wp
  have hr : (execOp a.eval o).run P w = .ok (.value v') w' := by
    simp [execOp, hop, resolve, hcal, hargs, htys, invoke, builtin, hv, hrun]
  rw [hr, Oper.upon_value]
  have hbelow : Fr w0.w w' w0.own := hfr.below h.below (fun b hb => hO b hb)
  have hkey : ∀ j e', applyM M ⟨.o (.r id (n + q)), [(id, .row m.e m.size (n + q) (xs ++ news))], [(k, .dead)]⟩ j = some e' →
      (j = id ∧ e' = .row m.e m.size (n + q) (xs ++ news)) ∨ (j = k ∧ e' = .dead) ∨ (Out id j ∧ j ≠ k ∧ M j = some e') := by
    intro j e' hj
    simp only [applyM, Mem.get] at hj
    by_cases hji : j = id
    · simp [hji] at hj; exact .inl ⟨hji, hj.symm⟩
    · simp only [hji, if_false] at hj
      cases hMj : M j with
      | none => simp [hMj] at hj
      | some e1 =>
        by_cases hjk : j = k
        · subst hjk; simp [hMj] at hj; exact .inr (.inl ⟨rfl, hj.symm⟩)
        · simp [hMj, hjk] at hj; exact .inr (.inr ⟨hid j (by simp [hMj]), hjk, by rw [hj]⟩)
  refine hK v' w' (fun j => if j = id then ⟨(match v' with | .slice (some g) _ _ => g | _ => default), v'⟩ else ρ j) (fun j hj => by simp [hj.ne]) ?_ hbelow ?_
  · have hold : ∀ j e', j ≠ k → M j = some e' → ∀ b, e'.blk (ρ j) = some b → ¬ (ρ k).v.ownBlock = some b := by
      intro j e' hne hMj b hbj hbk
      rcases h.mem.apart k _ j e' hM rfl hMj (Ne.symm hne) with hn | hn
      · rw [blk_row, hbk] at hn; cases hn
      · exact hn (by rw [blk_row, hbk, hbj])
    have hl : ∀ j, (M j).isSome = true → (applyM M ⟨.o (.r id (n + q)), [(id, .row m.e m.size (n + q) (xs ++ news))], [(k, .dead)]⟩ j).isSome = true ∧
        (fun j => if j = id then (⟨(match v' with | .slice (some g) _ _ => g | _ => default), v'⟩ : Loc) else ρ j) j = ρ j := fun j hj => ⟨live_applyM hj, by simp [(hid j hj).ne]⟩
    refine ⟨?_, ?_, ?_, ?_, fun j rt F hj => (hkey j _ hj).elim (fun h' => by cases h'.2) (fun h' => h'.elim (fun h' => by cases h'.2) (fun h' => h.mem.fct j rt F h'.2.2))⟩
    rotate_left
    · intro j cs hj
      rcases hkey j _ hj with ⟨_, h0⟩ | ⟨_, h0⟩ | ⟨hlt, hne, hMj⟩
      · cases h0
      · cases h0
      · exact h.mem.hdr_keep hfr hl hMj (fun b hb => hold j _ hne hMj b hb)
    · intro j i l' hj
      rcases hkey j _ hj with ⟨_, h0⟩ | ⟨_, h0⟩ | ⟨hlt, hne, hMj⟩
      · cases h0
      · cases h0
      · exact h.mem.sav_keep hl hMj
    rotate_left
    · intro j e' hj
      rcases hkey j e' hj with ⟨rfl, rfl⟩ | ⟨rfl, rfl⟩ | ⟨hlt, hne, hMj⟩
      · simp only [if_true]
        refine ⟨hown', fun g c2 c3 hvv => by simp only [] at hvv; subst hvv; rfl, ?_, fun b hb => (hblk b hb).elim (fun h1 => hO b h1) (fun h1 => w0.new b (Nat.le_trans h.below.size h1))⟩
        intro u hu'
        rcases List.mem_append.1 hu' with h' | h'
        · exact h3 u h'
        · exact hone u h'
      · trivial
      · simp only [hlt.ne, if_false]
        exact (h.mem.ent j e' hMj).frame hfr (fun b hb => hold j e' hne hMj b hb)
    · intro j e1 j' e2 hj ho hj' hne
      rcases hkey j e1 hj with ⟨rfl, rfl⟩ | ⟨rfl, rfl⟩ | ⟨hlt, hne1, hMj⟩
      · rcases hkey j' e2 hj' with ⟨rfl, rfl⟩ | ⟨rfl, rfl⟩ | ⟨hlt', hne2, hMj'⟩
        · exact absurd rfl hne
        · simp only [if_true, blk_row, blk_dead]
          cases hb' : v'.ownBlock with
          | none => exact .inl rfl
          | some b => exact .inr (by simp)
        · simp only [if_true, hlt'.ne, if_false, blk_row]
          cases hb' : v'.ownBlock with
          | none => exact .inl rfl
          | some b =>
            refine .inr fun hc => ?_
            rcases hblk b hb' with h' | h'
            · exact hold j' e2 hne2 hMj' b hc.symm h'
            · have := (h.mem.ent j' e2 hMj').lt hc.symm
              omega
      · simp [Ent.fresh] at ho
      · rcases hkey j' e2 hj' with ⟨rfl, rfl⟩ | ⟨rfl, rfl⟩ | ⟨hlt', hne2, hMj'⟩
        · simp only [if_true, hlt.ne, if_false]
          cases hbj : e1.blk (ρ j) with
          | none => exact .inl rfl
          | some b =>
            refine .inr fun hc => ?_
            rw [blk_row] at hc
            rcases hblk b hc.symm with h' | h'
            · exact hold j e1 hne1 hMj b hbj h'
            · have := (h.mem.ent j e1 hMj).lt hbj
              omega
        · cases hbj : e1.blk (if j = id then _ else ρ j) with
          | none => exact .inl rfl
          | some b => exact .inr (by simp [blk_dead])
        · simp only [hlt.ne, hlt'.ne, if_false]
          exact h.mem.apart j e1 j' e2 hMj ho hMj' hne
  · refine ⟨applyM_new M _ _ _, den_row hown' (by simp) ?_⟩
    intro g m c hy
    subst hy
    simp

end
end Go.Sx
namespace Go.Sx
section
variable {P : Program} {w0 : Base} {ρ : Nat → Loc} {T : Nat → AV} {M : MemF} {N : Nat} {a : Act} {w : World} {id : Nat} {o : Oper}
  {K : Act → World → Prop} {Q : Exit → Act → World → Prop}

theorem append_nil_new {q : Nat} {news : List Value} {x y : Operand} {c : Call} {t : TypeId} {m : Mk} (h : SatS w0 ρ T M N a w) (hid : ∀ k, (M k).isSome = true → Out id k)
    (hop : o.op = .call c) (hcal : c.callee = .builtin .append) (hargs : c.args = #[x, y]) (htys : c.argTypes = #[t, t]) (hm : mkI P t = some m) (hx : ev T x = .o (.v (.slice none 0 0)))
    (hy : sliceCells M m.size (ev T y) = some (q, news)) (hpos : 0 < m.size) (hzl : m.zero.length = m.size) (hl : news.length = q * m.size) (hb : q * m.bytes ≤ 140737488355328) (h63 : q ≤ 9223372036854775807)
    (hK : Goes w0 ρ M id ⟨.o (.r id q), [(id, .row m.e m.size q news)], []⟩ fun y w' => K (a.put o.dst y) w') : o.wp P a w K Q := by
  obtain ⟨i, z, hu, hi, hz, hsi, hby, hzc⟩ := mkI_spec hm
  have hv := h.evv hx
  obtain ⟨hone, hyv⟩ := sliceCells_run h hy hl
  obtain ⟨v', w', hrun, hown', hfr, hblk⟩ := append_run (P := P) w w.heap.size (ty := o.type) hu hi hz hsi hby (by rw [← Array.length_toList, hzc]; exact hzl) hpos (World.ownsRow_nil w w.heap.size m.e m.size) hl hone hyv (by simp only [maxLen]; omega) (by simpa using hb) (Nat.le_refl _)
  simp only [Nat.zero_add, List.nil_append] at hown'
  refine row_step h hid (List.all_eq_true.2 hone) ?_ (hfr.mono (fun k hk => by simp [Value.ownBlock] at hk)) hown' hK
  simp [execOp, hop, resolve, hcal, hargs, htys, invoke, builtin, hv, hrun]

section
variable {β : Type} {F : β → AV} {G : β → Value}
theorem sl_match {M : MemF} {x : AV} {n size : Nat} {ys : List Value} (hm : argMatch M x (.sl n size ys)) : sliceCells M size x = some (n, ys) ∧ ys.length = n * size := by
  revert hm; cases x with
  | o a0 => cases a0 <;> exact fun hm1 => hm1
  | t l => exact fun hm1 => hm1
theorem bx_match {M : MemF} {x : AV} {ys : List Value} (hm : argMatch M x (.bx ys)) : ∃ k off e cs, x = .o (.p k off) ∧ M k = some e ∧ e.cells = some cs ∧ ys = cs.drop off := by
  have hm2 : boxCells M x = some ys := by
    revert hm; cases x with
    | o a0 => cases a0 <;> exact fun hm1 => hm1
    | t l => exact fun hm1 => hm1
  cases x with
  | o a0 =>
    cases a0 with
    | p k off =>
      simp only [boxCells] at hm2
      cases hM : M k with
      | none => simp [hM] at hm2
      | some e =>
        cases hc : e.cells with
        | none => simp [hM, hc] at hm2
        | some cs => simp [hM, hc] at hm2; exact ⟨k, off, e, cs, rfl, hM, hc, hm2.symm⟩
    | _ => simp [boxCells] at hm2
  | t l => simp [boxCells] at hm2
theorem bx_reads (h : SatM w0 ρ M w) {k off : Nat} {e : Ent} {cs : List Value} (hM : M k = some e) (hc : e.cells = some cs) :
    (∀ u ∈ cs.drop off, u.oneCell' = true) ∧ ∀ j u, (cs.drop off)[j]? = some u → w.cell? (((ρ k).a.add off).add j) = some u := by
  have hen := h.ent k e hM
  refine ⟨fun v hv => hen.one hc v (List.mem_of_mem_drop hv), fun j u hj => ?_⟩
  rw [addr_add_add]
  rw [List.getElem?_drop] at hj
  refine hen.reads hc ?_ _ _ hj
  intro e0; subst e0; simp at hj
theorem row_arg (h : SatM w0 ρ M w) {k n0 e size n : Nat} {ys : List Value} {y : Value} (hv : Den0 ρ M (.r k n0) y) (hM : M k = some (.row e size n ys)) : w.ownsRow 0 e size y n ys ∧ ∀ u ∈ ys, u.oneCell' = true := by
  obtain ⟨h1, _, h3⟩ := h.ent k _ hM
  refine ⟨?_, h3.1⟩
  rw [hv.2.1]
  exact ⟨h1.1, h1.2.imp (fun x => x) fun ⟨g, cap, cur, hv, hg, r⟩ => ⟨g, cap, cur, hv, Nat.zero_le _, r⟩⟩
theorem fv_match {M : MemF} {x : AV} {f : Nat} (hm : argMatch M x (.fv f)) : x = .o (.fn f []) := by
  cases x with
  | o a0 =>
    cases a0 with
    | fn g ks =>
      cases ks with
      | nil => have hm : g = f := hm; rw [hm]
      | cons k ks => exact hm.elim
    | _ => exact hm.elim
  | t l => exact hm.elim
theorem ib_match {M : MemF} {x : AV} {xs ys : List Value} (hm : argMatch M x (.ib xs ys)) : ∃ k, x = .o (.p k 0) ∧ M k = some (.box xs) ∧ xs.isEmpty = false ∧ ys.isEmpty = false := by
  cases x with
  | o a0 =>
    cases a0 with
    | p k off =>
      obtain ⟨rfl, h1, h2, h3⟩ := hm
      exact ⟨k, rfl, h1, h2, h3⟩
    | _ => exact hm.elim
  | t l => exact hm.elim
theorem ib_arg (h : SatM w0 ρ M w) {k : Nat} {xs : List Value} {y : Value} (hv : Den0 ρ M (.p k 0) y) (hM : M k = some (.box xs)) (hne : xs.isEmpty = false) :
    (∀ u ∈ xs, u.oneCell' = true) ∧ ∃ b ty cur, y = .pointer (some ⟨b, 0, none⟩) ∧ (ρ k).a = ⟨b, 0, none⟩ ∧ w0.own b ∧ w.heap[b]? = some (.cells cur ty (0, 0)) ∧ cur.toList.take xs.length = xs := by
  obtain ⟨h1, h2⟩ := h.ent k _ hM
  obtain ⟨b, ty, cur, ha, ho, hh, ht⟩ := h2 hne
  refine ⟨h1, b, ty, cur, ?_, ha, ho, hh, ht⟩
  rw [hv.2, ha]
  simp [Addr.add]
theorem ents_at (h : SatM w0 ρ M w) {rt : Bool} {F : World → Prop} (he : ents M rt F) {w' : World} (f : Fr w0.w w' (w0.st rt)) : F w' :=
  he w' fun k r F0 hk hr => h.fct k r F0 hk w' (f.mono fun b hb => hb.imp (fun x => x) fun h => h.imp (fun ⟨h1, h2⟩ => ⟨hr h1, h2⟩) fun x => x)
theorem args_ok (h : SatM w0 ρ M w) (hbel : Fr w0.w w w0.own) : ∀ {xs : List β} {as : List Arg}, (∀ x, x ∈ xs → Den ρ M (F x) (G x)) → argsMatch M (xs.map F) as → ArgsOK w as (xs.map G)
  | [], [], _, _ => trivial
  | x :: xs, b :: as, hd, hm => by
    refine ⟨?_, args_ok h hbel (fun y hy => hd y (by simp [hy])) hm.2⟩
    have hm1 := hm.1
    have hdx := hd x (by simp)
    cases b with
    | val y =>
      cases hx : F x with
      | o a0 =>
        cases a0 with
        | v x0 => rw [hx] at hm1 hdx; exact (show G x = x0 from hdx).trans hm1
        | _ => rw [hx] at hm1; exact hm1.elim
      | t l => rw [hx] at hm1; exact hm1.elim
    | fa y F0 =>
      cases hx : F x with
      | o a0 =>
        cases a0 with
        | v x0 => rw [hx] at hm1 hdx; exact ⟨(show G x = x0 from hdx).trans hm1.1, ents_at h hm1.2 (hbel.mono fun b hb => .inl hb)⟩
        | _ => rw [hx] at hm1; exact hm1.elim
      | t l => rw [hx] at hm1; exact hm1.elim
    | sl n size ys =>
      obtain ⟨hs, hl⟩ := sl_match hm1
      obtain ⟨hone, hv⟩ := sliceCells_den (F := F) (G := G) h hdx hs hl
      rcases hv with ⟨ad, c, he, hle, hr⟩ | ⟨he, h0, hn⟩
      · exact ⟨some ad, c, he, hle, hl, by simp, hone, fun _ => ⟨ad, rfl, hr⟩⟩
      · subst h0; subst hn
        exact ⟨none, 0, he, Nat.le_refl _, by simp, fun _ => rfl, by simp, by simp⟩
    | bx ys =>
      obtain ⟨k, off, e, cs, hx, hM, hc, rfl⟩ := bx_match hm1
      rw [hx] at hdx
      obtain ⟨r1, r2⟩ := bx_reads h (off := off) hM hc
      exact ⟨_, hdx.2, r1, r2⟩
    | mv e size n ys =>
      cases hx : F x with
      | o a0 =>
        cases a0 with
        | r k n0 =>
          rw [hx] at hm1 hdx
          exact row_arg h hdx hm1
        | _ => rw [hx] at hm1; exact hm1.elim
      | t l => rw [hx] at hm1; exact hm1.elim
    | io e size n ys zs =>
      cases hx : F x with
      | o a0 =>
        cases a0 with
        | r k n0 =>
          rw [hx] at hm1 hdx
          exact row_arg h hdx hm1
        | _ => rw [hx] at hm1; exact hm1.elim
      | t l => rw [hx] at hm1; exact hm1.elim
    | fv f =>
      rw [fv_match hm1] at hdx
      exact hdx.2
    | ib ys zs =>
      obtain ⟨k, hx, hM, hne, _⟩ := ib_match hm1
      rw [hx] at hdx
      obtain ⟨r1, b, ty, cur, r2, _, _, r3, r4⟩ := ib_arg h hdx hM hne
      exact ⟨hne, r1, b, ty, cur, r2, r3, r4⟩
  | [], _ :: _, _, hm => hm.elim
  | _ :: _, [], _, hm => hm.elim

/-- The block that an argument reads is that of an entry that it names. -/
theorem readBlk_ent (h : SatM w0 ρ M w) {x : β} {b : Arg} (hv : Den ρ M (F x) (G x)) (hm : argMatch M (F x) b) {g : Nat} (hg : readBlk b (G x) = some g) :
    ∃ k e, ((∃ n, F x = .o (.r k n)) ∨ (∃ off len, F x = .o (.s k off len)) ∨ ∃ off, F x = .o (.p k off)) ∧ M k = some e ∧ e.blk (ρ k) = some g := by
  have rowc : ∀ e size n ys, argMatch M (F x) (.mv e size n ys) → (G x).ownBlock = some g → ∃ k e, ((∃ n, F x = .o (.r k n)) ∨ (∃ off len, F x = .o (.s k off len)) ∨ ∃ off, F x = .o (.p k off)) ∧ M k = some e ∧ e.blk (ρ k) = some g := by
    intro e size n ys hm hg
    cases hx : F x with
    | o a0 =>
      cases a0 with
      | r k n0 =>
        rw [hx] at hm hv
        refine ⟨k, _, .inl ⟨n0, rfl⟩, hm, ?_⟩
        rw [hv.2.1] at hg
        rw [blk_row]; exact hg
      | _ => rw [hx] at hm; exact hm.elim
    | t l => rw [hx] at hm; exact hm.elim
  cases b with
  | val y => simp [readBlk] at hg
  | fa y F0 => simp [readBlk] at hg
  | fv f => simp [readBlk] at hg
  | mv e size n ys => exact rowc e size n ys hm hg
  | io e size n ys zs =>
    refine rowc e size n ys ?_ hg
    revert hm; cases F x with
    | o a0 => cases a0 <;> exact fun hm1 => hm1
    | t l => exact fun hm1 => hm1
  | ib ys zs =>
    obtain ⟨k, hx, hM, hne, _⟩ := ib_match hm
    rw [hx] at hv
    obtain ⟨_, b, ty, cur, r2, ha, _⟩ := ib_arg h hv hM hne
    simp only [readBlk, r2, Option.some.injEq] at hg
    refine ⟨k, _, .inr (.inr ⟨0, hx⟩), hM, ?_⟩
    simp only [Ent.blk, hne, ha]
    simpa using hg
  | bx ys =>
    obtain ⟨k, off, e, cs, hx, hM, hc, rfl⟩ := bx_match hm
    rw [hx] at hv
    simp only [readBlk] at hg
    split at hg
    · cases hg
    · rename_i hne
      rw [hv.2] at hg
      simp only [addr_add_block, Option.some.injEq] at hg
      refine ⟨k, e, .inr (.inr ⟨off, hx⟩), hM, ?_⟩
      have hcne : cs ≠ [] := by intro e0; subst e0; simp at hne
      cases e with
      | box cs' =>
        simp only [Ent.cells, Option.some.injEq] at hc
        subst hc
        cases cs' with
        | nil => exact absurd rfl hcne
        | cons x2 xs2 => simp [Ent.blk, hg]
      | row e2 sz n2 xs2 =>
        simp only [Ent.cells, Option.some.injEq] at hc
        subst hc
        obtain ⟨h1, h2, _⟩ := h.ent k _ hM
        rcases h1.2 with ⟨hvv, h0⟩ | ⟨g2, cap2, cur, hvv, _⟩
        · subst h0
          have := h1.1
          exact absurd (List.eq_nil_of_length_eq_zero (by simpa using this)) hcne
        · rw [blk_row, hvv, ← hg, h2 _ _ _ hvv]; rfl
      | view fr xs2 =>
        simp only [Ent.cells, Option.some.injEq] at hc
        subst hc
        cases xs2 with
        | nil => exact absurd rfl hcne
        | cons x2 xs2 => simp [Ent.blk, hg]
      | hdr cs2 => simp [Ent.cells] at hc
      | sav j2 l2 => simp [Ent.cells] at hc
      | fact rt2 F2 => simp [Ent.cells] at hc
      | dead => simp [Ent.cells] at hc
  | sl n size ys =>
    obtain ⟨hs, hl⟩ := sl_match hm
    simp only [readBlk] at hg
    split at hg
    · cases hg
    · rename_i hne
      have hne' : ys ≠ [] := by intro e; subst e; simp at hne
      unfold sliceCells at hs
      split at hs
      · rename_i k off len hx
        rw [hx] at hv
        obtain ⟨_, o', cap, hv, hle, hor, hnil⟩ := hv
        split at hs
        · rename_i e hM
          split at hs
          · rename_i cs hcs
            simp only [Option.some.injEq, Prod.mk.injEq] at hs
            obtain ⟨rfl, rfl⟩ := hs
            have hlen : len ≠ 0 := by intro e; subst e; simp at hne'
            have ho := hor.resolve_left hlen
            subst ho
            rw [hv] at hg
            simp only [Value.ownBlock, addr_add_block, Option.some.injEq] at hg
            refine ⟨k, e, .inr (.inl ⟨off, len, hx⟩), hM, ?_⟩
            have hcne : cs ≠ [] := by intro e; subst e; simp at hne'
            cases e with
            | box cs' =>
              simp only [Ent.cells, Option.some.injEq] at hcs
              subst hcs
              cases cs' with
              | nil => exact absurd rfl hcne
              | cons x2 xs2 => simp [Ent.blk, hg]
            | row e2 sz n2 xs2 =>
              simp only [Ent.cells, Option.some.injEq] at hcs
              subst hcs
              obtain ⟨h1, h2, _⟩ := h.ent k _ hM
              rcases h1.2 with ⟨hvv, h0⟩ | ⟨g2, cap2, cur, hvv, _⟩
              · subst h0
                have := h1.1
                exact absurd (List.eq_nil_of_length_eq_zero (by simpa using this)) hcne
              · rw [blk_row, hvv, ← hg, h2 _ _ _ hvv]; rfl
            | view fr xs2 =>
              simp only [Ent.cells, Option.some.injEq] at hcs
              subst hcs
              cases xs2 with
              | nil => exact absurd rfl hcne
              | cons x2 xs2 => simp [Ent.blk, hg]
            | hdr cs2 => simp [Ent.cells] at hcs
            | sav j2 l2 => simp [Ent.cells] at hcs
            | fact rt2 F2 => simp [Ent.cells] at hcs
            | dead => simp [Ent.cells] at hcs
          · cases hs
        · cases hs
      · rename_i k n0 hx
        rw [hx] at hv
        split at hs
        · rename_i e sz n2 xs2 hM
          refine ⟨k, _, .inl ⟨n0, hx⟩, hM, ?_⟩
          rw [blk_row, ← hv.2.1]; exact hg
        · cases hs
      · simp only [Option.some.injEq, Prod.mk.injEq] at hs
        exact absurd hs.2.symm hne'
      · cases hs

/-- What a call may write: the entry that it is given. -/
def ownEnt : Arg → Ent → Prop
  | .mv e s n xs, e0 => e0 = .row e s n xs
  | .io e s n xs _, e0 => e0 = .row e s n xs
  | .ib xs ys, e0 => e0 = .box xs ∧ xs.isEmpty = false ∧ ys.isEmpty = false
  | _, _ => False
/-- The entry behind the call. -/
def aftEnt : Arg → Option Ent
  | .io e s n _ ys => some (.row e s n ys)
  | .ib _ ys => some (.box ys)
  | _ => none
theorem own_fr {b : Arg} {e : Ent} (h : ownEnt b e) : e.fresh = true := by
  cases b <;> first | exact h.elim | (have h : e = _ := h; rw [h]; rfl) | (rw [h.1]; rfl)
theorem own_blk (h : SatM w0 ρ M w) {x : β} {b : Arg} {e : Ent} {k : Nat} (hv : Den ρ M (F x) (G x)) (hk : (∃ n, F x = .o (.r k n)) ∨ F x = .o (.p k 0)) (ho : ownEnt b e) (hM : M k = some e) (hm : argMatch M (F x) b) : movedBlk b (G x) = e.blk (ρ k) := by
  have row : ∀ e s n xs, argMatch M (F x) (.mv e s n xs) → (G x).ownBlock = (Ent.row e s n xs).blk (ρ k) := by
    intro e s n xs hm
    rcases hk with ⟨n0, hk⟩ | hk
    · rw [hk] at hv
      rw [blk_row, hv.2.1]
    · rw [hk] at hm; exact hm.elim
  cases b with
  | mv e2 s n xs => have ho : e = _ := ho; subst ho; exact row _ _ _ _ hm
  | io e2 s n xs ys =>
    have ho : e = _ := ho
    subst ho
    refine row _ _ _ _ ?_
    revert hm; cases F x with
    | o a0 => cases a0 <;> exact fun hm1 => hm1
    | t l => exact fun hm1 => hm1
  | ib xs ys =>
    obtain ⟨rfl, hne, _⟩ := ho
    obtain ⟨k', hx, hM', _⟩ := ib_match hm
    have hkk : k' = k := by
      rcases hk with ⟨n0, hk⟩ | hk
      · rw [hx] at hk; cases hk
      · rw [hx] at hk; simpa using hk
    subst hkk
    rw [hx] at hv
    obtain ⟨_, b, ty, cur, r2, ha, _⟩ := ib_arg h hv hM' hne
    simp only [movedBlk, r2, Ent.blk, hne, ha]
    simp
  | _ => exact ho.elim
theorem movedBlk_ent (h : SatM w0 ρ M w) {x : β} {b : Arg} (hv : Den ρ M (F x) (G x)) (hm : argMatch M (F x) b) {g : Nat} (hg : movedBlk b (G x) = some g) :
    ∃ k e, ((∃ n, F x = .o (.r k n)) ∨ F x = .o (.p k 0)) ∧ ownEnt b e ∧ M k = some e ∧ e.blk (ρ k) = some g := by
  have main : ∃ k e, ((∃ n, F x = .o (.r k n)) ∨ F x = .o (.p k 0)) ∧ ownEnt b e ∧ M k = some e := by
    cases b with
    | val y => simp [movedBlk] at hg
    | fa y F0 => simp [movedBlk] at hg
    | fv f => simp [movedBlk] at hg
    | sl n size ys => simp [movedBlk] at hg
    | bx ys => simp [movedBlk] at hg
    | mv e size n ys =>
      cases hx : F x with
      | o a0 =>
        cases a0 with
        | r k n0 => rw [hx] at hm; exact ⟨k, _, .inl ⟨n0, rfl⟩, rfl, hm⟩
        | _ => rw [hx] at hm; exact hm.elim
      | t l => rw [hx] at hm; exact hm.elim
    | io e size n ys zs =>
      cases hx : F x with
      | o a0 =>
        cases a0 with
        | r k n0 => rw [hx] at hm; exact ⟨k, _, .inl ⟨n0, rfl⟩, rfl, hm⟩
        | _ => rw [hx] at hm; exact hm.elim
      | t l => rw [hx] at hm; exact hm.elim
    | ib xs ys =>
      obtain ⟨k, hx, hM, h1, h2⟩ := ib_match hm
      exact ⟨k, _, .inr hx, ⟨rfl, h1, h2⟩, hM⟩
  obtain ⟨k, e, h1, h2, h3⟩ := main
  exact ⟨k, e, h1, h2, h3, by rw [← own_blk h hv h1 h2 h3 hm]; exact hg⟩

theorem refs_sub {x : AV} {l : List AV} {k : Nat} (h : k ∈ refs l) : k ∈ refs (x :: l) := by
  cases x with
  | o a0 => cases a0 <;> simp [refs, h]
  | t l' => exact h
theorem refs_nodup {x : AV} {l : List AV} (h : (refs (x :: l)).Nodup) : (refs l).Nodup := by
  cases x with
  | o a0 => cases a0 <;> first | exact h | exact (List.nodup_cons.1 h).2
  | t l' => exact h
theorem refs_own {x : AV} {l : List AV} {k : Nat} (hx : (∃ n, x = .o (.r k n)) ∨ x = .o (.p k 0)) : refs (x :: l) = k :: refs l := by
  rcases hx with ⟨n, rfl⟩ | rfl <;> rfl
theorem refs_mem {x : AV} {l : List AV} {k : Nat} (hx : (∃ n, x = .o (.r k n)) ∨ (∃ off len, x = .o (.s k off len)) ∨ ∃ off, x = .o (.p k off)) (h : x ∈ l) : k ∈ refs l := by
  induction l with
  | nil => cases h
  | cons z l ih =>
    rcases List.mem_cons.1 h with rfl | h
    · rcases hx with ⟨n, rfl⟩ | ⟨off, len, rfl⟩ | ⟨off, rfl⟩ <;> simp [refs]
    · exact refs_sub (ih h)

theorem argsMatch_zip : ∀ {xs : List β} {as : List Arg}, argsMatch M (xs.map F) as → ∀ b y, (b, y) ∈ as.zip (xs.map G) → ∃ x, x ∈ xs ∧ y = G x ∧ argMatch M (F x) b
  | [], [], _, _, _, h => by simp at h
  | x :: xs, b :: as, hm, b', y', h => by
    simp only [List.map_cons, List.zip_cons_cons, List.mem_cons, Prod.mk.injEq] at h
    rcases h with ⟨rfl, rfl⟩ | h
    · exact ⟨x, by simp, rfl, hm.1⟩
    · obtain ⟨x', h1, h2, h3⟩ := argsMatch_zip hm.2 b' y' h
      exact ⟨x', by simp [h1], h2, h3⟩
  | [], _ :: _, hm, _, _, _ => hm.elim
  | _ :: _, [], hm, _, _, _ => hm.elim

theorem apart_ok (h : SatM w0 ρ M w) : ∀ {xs : List β} {as : List Arg}, (∀ x, x ∈ xs → Den ρ M (F x) (G x)) → argsMatch M (xs.map F) as → (refs (xs.map F)).Nodup → apartArgs as (xs.map G)
  | [], [], _, _, _ => trivial
  | x :: xs, b :: as, hd, hm, hnd => by
    have clash : ∀ {k k' e e'} {g : Nat}, M k = some e → e.fresh = true → M k' = some e' → k ≠ k' → e.blk (ρ k) = some g → e'.blk (ρ k') = some g → False := by
      intro k k' e e' g h1 ho h2 hne hb hb'
      rcases h.apart k e k' e' h1 ho h2 hne with hn | hn
      · rw [hb] at hn; cases hn
      · exact hn (by rw [hb, hb'])
    have hd' : ∀ y, y ∈ xs → Den ρ M (F y) (G y) := fun y hy => hd y (by simp [hy])
    have hdx := hd x (by simp)
    refine ⟨?_, ?_, apart_ok h hd' hm.2 (refs_nodup hnd)⟩
    · intro g hg b' y' hin hr
      obtain ⟨x', hx', rfl, hm'⟩ := argsMatch_zip hm.2 b' y' hin
      obtain ⟨k, e, hxk, hoe, hMk, hbk⟩ := movedBlk_ent h hdx hm.1 hg
      obtain ⟨k', e', hxk', hMk', hbk'⟩ := readBlk_ent h (hd' x' hx') hm' hr
      have hin' : k' ∈ refs (xs.map F) := refs_mem hxk' (List.mem_map.2 ⟨x', hx', rfl⟩)
      rw [List.map_cons, refs_own hxk] at hnd
      have hne : k ≠ k' := fun e => (List.nodup_cons.1 hnd).1 (e ▸ hin')
      exact clash hMk (own_fr hoe) hMk' hne hbk hbk'
    · intro g hg b' y' hin hr
      obtain ⟨x', hx', rfl, hm'⟩ := argsMatch_zip hm.2 b' y' hin
      obtain ⟨k', e, hxk', hoe, hMk', hbk'⟩ := movedBlk_ent h (hd' x' hx') hm' hr
      obtain ⟨k, e', hxk, hMk, hbk⟩ := readBlk_ent h hdx hm.1 hg
      have hin' : k' ∈ refs (xs.map F) := refs_mem (hxk'.imp (fun h => h) fun h => .inr ⟨0, h⟩) (List.mem_map.2 ⟨x', hx', rfl⟩)
      have hne : k' ≠ k := by
        intro e0; subst e0
        rcases hxk with ⟨n1, hxk⟩ | ⟨off, len, hxk⟩ | ⟨off, hxk⟩ <;> (simp only [List.map_cons, hxk, refs] at hnd; exact (List.nodup_cons.1 hnd).1 hin')
      exact clash hMk' (own_fr hoe) hMk hne hbk' hbk
  | [], _ :: _, _, hm, _ => hm.elim
  | _ :: _, [], _, hm, _ => hm.elim

theorem apart_none : ∀ {xs : List β} {as : List Arg}, argsMatch M (xs.map F) as → movedE (xs.map F) as = [] → apartArgs as (xs.map G) ∧ ∀ b, ¬ moved as (xs.map G) b
  | [], [], _, _ => ⟨trivial, fun _ h => h⟩
  | x :: xs, b :: as, hm, h0 => by
    have hno : ∀ y, movedBlk b y = none := by
      intro y
      cases b with
      | mv e size n ys =>
        have hm1 := hm.1
        cases hx : F x with
        | o a0 =>
          cases a0 with
          | r k n0 => simp [movedE, hx] at h0
          | _ => rw [hx] at hm1; exact hm1.elim
        | t l => rw [hx] at hm1; exact hm1.elim
      | io e size n ys zs =>
        have hm1 := hm.1
        cases hx : F x with
        | o a0 =>
          cases a0 with
          | r k n0 => simp [movedE, hx] at h0
          | _ => rw [hx] at hm1; exact hm1.elim
        | t l => rw [hx] at hm1; exact hm1.elim
      | ib xs' ys' =>
        obtain ⟨k, hx, _⟩ := ib_match hm.1
        simp [movedE, hx] at h0
      | _ => rfl
    have h0' : movedE (xs.map F) as = [] := by
      simp only [List.map_cons] at h0
      unfold movedE at h0
      split at h0
      · cases h0
      · cases h0
      · cases h0
      · rename_i e1 e2; simp only [List.cons.injEq] at e1 e2; rw [e1.2, e2.2]; exact h0
      · rename_i hn; exact absurd rfl (hn _ _ _ _ rfl)
    obtain ⟨i1, i2⟩ := apart_none hm.2 h0'
    refine ⟨⟨fun g hg => absurd hg (by rw [hno]; simp), fun g _ b' y' hin hr => ?_, i1⟩, fun g hg => ?_⟩
    · have key : ∀ {xs' : List β} {as' : List Arg}, argsMatch M (xs'.map F) as' → (∀ b, ¬ moved as' (xs'.map G) b) → ∀ b' y', (b', y') ∈ as'.zip (xs'.map G) → ∀ g, movedBlk b' y' ≠ some g := by
        intro xs'
        induction xs' with
        | nil => intro as' _ _ b' y' hin; simp at hin
        | cons x' xs' ih =>
          intro as' hm' hn' b' y' hin g hg
          cases as' with
          | nil => simp at hin
          | cons c as' =>
            simp only [List.map_cons, List.zip_cons_cons, List.mem_cons, Prod.mk.injEq] at hin
            rcases hin with ⟨rfl, rfl⟩ | hin
            · exact hn' g (.inl hg)
            · exact ih hm'.2 (fun b hb => hn' b (.inr hb)) b' y' hin g hg
      exact key hm.2 i2 b' y' hin g hr
    · rcases hg with hg | hg
      · rw [hno] at hg; cases hg
      · exact i2 g hg
  | [], _ :: _, hm, _ => hm.elim
  | _ :: _, [], hm, _ => hm.elim
end

def newLoc (z : Value) : Loc := ⟨match z with | .slice (some g) _ _ => g | .pointer (some g) => g | _ => default, z⟩

theorem ressE_get : ∀ {rs : List Res} {j k : Nat} {e : Ent}, (ressE j rs).get k = some e → j ≤ k ∧ ∃ r, rs[k - j]? = some r ∧ resE k r = [(k, e)]
  | [], j, k, e, h => by simp [ressE, Mem.get] at h
  | r :: rs, j, k, e, h => by
    have hrest : (ressE (j + 1) rs).get k = some e → j ≤ k ∧ ∃ r', (r :: rs)[k - j]? = some r' ∧ resE k r' = [(k, e)] := by
      intro h'
      obtain ⟨h1, r', h2, h3⟩ := ressE_get h'
      refine ⟨by omega, r', ?_, h3⟩
      have : k - j = (k - (j + 1)) + 1 := by omega
      rw [this]; simpa using h2
    cases r with
    | val x => exact hrest (by simpa [ressE, resE] using h)
    | fa F => exact hrest (by simpa [ressE, resE] using h)
    | row e' size n xs =>
      simp only [ressE, resE, List.cons_append, List.nil_append, Mem.get] at h
      split at h
      · rename_i hk; subst hk; simp only [Option.some.injEq] at h; exact ⟨Nat.le_refl _, .row e' size n xs, by simp, by rw [← h]; rfl⟩
      · exact hrest h
    | view n size xs =>
      simp only [ressE, resE, List.cons_append, List.nil_append, Mem.get] at h
      split at h
      · rename_i hk; subst hk; simp only [Option.some.injEq] at h; exact ⟨Nat.le_refl _, .view n size xs, by simp, by rw [← h]; rfl⟩
      · exact hrest h
    | part n size xs =>
      simp only [ressE, resE, List.cons_append, List.nil_append, Mem.get] at h
      split at h
      · rename_i hk; subst hk; simp only [Option.some.injEq] at h; exact ⟨Nat.le_refl _, .part n size xs, by simp, by rw [← h]; rfl⟩
      · exact hrest h

def Res.isV : Res → Bool
  | .val _ => true
  | .fa _ => true
  | _ => false
theorem ressE_live : ∀ {rs : List Res} {j i : Nat} {r : Res}, rs[i]? = some r → r.isV = false → ((ressE j rs).get (j + i)).isSome = true
  | [], _, _, _, h, _ => by simp at h
  | r0 :: rs, j, 0, r, h, hn => by
    simp at h
    subst h
    cases r0 with
    | val x => cases hn
    | fa F => cases hn
    | _ => simp [ressE, resE, Mem.get]
  | r0 :: rs, j, i + 1, r, h, hn => by
    have ih := ressE_live (j := j + 1) (i := i) (rs := rs) (by simpa using h) hn
    have e : j + 1 + i = j + (i + 1) := by omega
    rw [e] at ih
    cases r0 with
    | val x => simpa [ressE, resE] using ih
    | fa F => simpa [ressE, resE] using ih
    | _ =>
      simp only [ressE, resE, List.cons_append, List.nil_append, Mem.get]
      split
      · rfl
      · exact ih

theorem ress_len {w' : World} {new : Nat → Prop} : ∀ {rs : List Res} {zs : List Value}, RessOK w' new rs zs → rs.length = zs.length
  | [], [], _ => rfl
  | _ :: _, _ :: _, h => by simp [ress_len h.2.1]
  | [], _ :: _, h => h.elim
  | _ :: _, [], h => h.elim
theorem ress_at {w' : World} {new : Nat → Prop} : ∀ {rs : List Res} {zs : List Value} {i : Nat} {r : Res} {z : Value}, RessOK w' new rs zs → rs[i]? = some r → zs[i]? = some z → ResOK w' new r z
  | _ :: _, _ :: _, 0, _, _, h, h1, h2 => by simp at h1 h2; subst h1 h2; exact h.1
  | _ :: _, _ :: _, i + 1, _, _, h, h1, h2 => ress_at h.2.1 (by simpa using h1) (by simpa using h2)
  | [], _, _, _, _, _, h1, _ => by simp at h1
  | _ :: _, [], _, _, _, _, _, h2 => by simp at h2
theorem ress_apart {w' : World} {new : Nat → Prop} : ∀ {rs : List Res} {zs : List Value} {i j : Nat} {r r' : Res} {z z' : Value} {b : Nat}, RessOK w' new rs zs → i < j → rs[i]? = some r → zs[i]? = some z → rs[j]? = some r' → zs[j]? = some z' →
    ResBlk r z = some b → ResBlk r' z' ≠ some b
  | _ :: rs, _ :: zs, 0, j + 1, r, r', z, z', b, h, _, h1, h2, h3, h4, h5 => by
    simp at h1 h2 h3 h4
    subst h1 h2
    refine h.2.2 b h5 r' z' ?_
    have : (rs.zip zs)[j]? = some (r', z') := by simp [List.getElem?_zip_eq_some, h3, h4]
    exact List.mem_of_getElem? this
  | _ :: _, _ :: _, i + 1, j + 1, _, _, _, _, _, h, hij, h1, h2, h3, h4, h5 => ress_apart (i := i) (j := j) h.2.1 (by omega) (by simpa using h1) (by simpa using h2) (by simpa using h3) (by simpa using h4) h5
  | [], _, _, _, _, _, _, _, _, _, _, h1, _, _, _, _ => by simp at h1
  | _ :: _, [], _, _, _, _, _, _, _, _, _, _, h2, _, _, _ => by simp at h2
  | _ :: _, _ :: _, _, 0, _, _, _, _, _, _, hij, _, _, _, _, _ => by omega

section
variable {β : Type} {F : β → AV} {G : β → Value}
/-- What is written in place. -/
def ioEnt (F : β → AV) (M : MemF) (xs : List β) (as : List Arg) (k : Nat) (e : Ent) : Prop :=
  ∃ (i : Nat) (x : β) (b : Arg) (e0 : Ent), xs[i]? = some x ∧ as[i]? = some b ∧ ((∃ n, F x = .o (.r k n)) ∨ F x = .o (.p k 0)) ∧ aftEnt b = some e ∧ ownEnt b e0 ∧ M k = some e0 ∧ argMatch M (F x) b
theorem ioEnt_s {x : β} {b : Arg} {xs : List β} {as : List Arg} {k : Nat} {e : Ent} (h : ioEnt F M xs as k e) : ioEnt F M (x :: xs) (b :: as) k e := by
  obtain ⟨i, y, b, e0, h1, h2, h3⟩ := h
  exact ⟨i + 1, y, b, e0, by simpa using h1, by simpa using h2, h3⟩
theorem movedE_get : ∀ {xs : List β} {as : List Arg} {k : Nat} {e : Ent}, argsMatch M (xs.map F) as → (movedE (xs.map F) as).get k = some e → e = .dead ∨ ioEnt F M xs as k e
  | [], [], k, e, _, h => by simp [movedE, Mem.get] at h
  | [], _ :: _, _, _, hm, _ => hm.elim
  | _ :: _, [], _, _, hm, _ => hm.elim
  | x :: l, b :: as, k, e, hm, h => by
    simp only [List.map_cons] at h
    have hm1 := hm.1
    unfold movedE at h
    split at h
    · simp only [Mem.get] at h
      split at h
      · simp only [Option.some.injEq] at h; exact .inl h.symm
      · rename_i e1 e2 _; simp only [List.cons.injEq] at e1 e2; rw [← e1.2, ← e2.2] at h; exact (movedE_get hm.2 h).imp (fun x => x) ioEnt_s
    · simp only [Mem.get] at h
      split at h
      · rename_i hk
        rename_i e1 e2
        simp only [List.cons.injEq] at e1 e2
        simp only [Option.some.injEq] at h
        obtain ⟨e1, _⟩ := e1
        obtain ⟨e2, _⟩ := e2
        subst hk
        have hm2 := hm1
        rw [e1, e2] at hm2
        exact .inr ⟨0, x, b, _, rfl, rfl, .inl ⟨_, e1⟩, by rw [e2, ← h]; rfl, by rw [e2]; rfl, hm2, hm1⟩
      · rename_i e1 e2 _; simp only [List.cons.injEq] at e1 e2; rw [← e1.2, ← e2.2] at h; exact (movedE_get hm.2 h).imp (fun x => x) ioEnt_s
    · simp only [Mem.get] at h
      split at h
      · rename_i hk
        rename_i e1 e2
        simp only [List.cons.injEq] at e1 e2
        simp only [Option.some.injEq] at h
        obtain ⟨e1, _⟩ := e1
        obtain ⟨e2, _⟩ := e2
        subst hk
        have hm2 := hm1
        rw [e1, e2] at hm2
        obtain ⟨rfl, q1, q2, q3⟩ := hm2
        exact .inr ⟨0, x, b, _, rfl, rfl, .inr e1, by rw [e2, ← h]; rfl, by rw [e2]; exact ⟨rfl, q2, q3⟩, q1, hm1⟩
      · rename_i e1 e2 _; simp only [List.cons.injEq] at e1 e2; rw [← e1.2, ← e2.2] at h; exact (movedE_get hm.2 h).imp (fun x => x) ioEnt_s
    · rename_i e1 e2; simp only [List.cons.injEq] at e1 e2; rw [← e1.2, ← e2.2] at h; exact (movedE_get hm.2 h).imp (fun x => x) ioEnt_s
    · simp [Mem.get] at h

theorem moved_dead (h : SatM w0 ρ M w) : ∀ {xs : List β} {as : List Arg} {g : Nat}, (∀ x, x ∈ xs → Den ρ M (F x) (G x)) → argsMatch M (xs.map F) as → moved as (xs.map G) g →
    ∃ k e b, ownEnt b e ∧ M k = some e ∧ e.blk (ρ k) = some g ∧ ((movedE (xs.map F) as).get k).isSome = true
  | [], [], _, _, _, hg => hg.elim
  | x :: xs, b :: as, g, hd, hm, hg => by
    rcases hg with hg | hg
    · obtain ⟨k, e, hxk, hb, hMk, hbk⟩ := movedBlk_ent h (hd x (by simp)) hm.1 hg
      refine ⟨k, e, b, hb, hMk, hbk, ?_⟩
      have hm1 := hm.1
      rcases hxk with ⟨n, hxk⟩ | hxk
      · rw [hxk] at hm1
        cases b <;> first | exact hb.elim | exact hm1.elim | simp [movedE, hxk, Mem.get]
      · rw [hxk] at hm1
        cases b <;> first | exact hb.elim | exact hm1.elim | simp [movedE, hxk, Mem.get]
    · obtain ⟨k, e, b', h0, h1, h2, h3⟩ := moved_dead h (fun y hy => hd y (by simp [hy])) hm.2 hg
      refine ⟨k, e, b', h0, h1, h2, ?_⟩
      simp only [List.map_cons]
      have step : ∀ (k' : Nat) (e' : Ent) (m : Mem), (m.get k).isSome = true → (Mem.get ((k', e') :: m) k).isSome = true := by
        intro k' e' m hm
        simp only [Mem.get]
        split
        · rfl
        · exact hm
      unfold movedE
      split
      · rename_i e1 e2; simp only [List.cons.injEq] at e1 e2
        rw [← e1.2, ← e2.2]; exact step _ _ _ h3
      · rename_i e1 e2; simp only [List.cons.injEq] at e1 e2
        rw [← e1.2, ← e2.2]; exact step _ _ _ h3
      · rename_i e1 e2; simp only [List.cons.injEq] at e1 e2
        rw [← e1.2, ← e2.2]; exact step _ _ _ h3
      · rename_i e1 e2; simp only [List.cons.injEq] at e1 e2; rw [← e1.2, ← e2.2]; exact h3
      · rename_i hn; exact absurd rfl (hn _ _ _ _ rfl)
  | [], _ :: _, _, _, hm, _ => hm.elim
  | _ :: _, [], _, _, hm, _ => hm.elim
end

theorem den_newLoc {w' : World} {new : Nat → Prop} {r : Res} {z : Value} {k : Nat} {ρ' : Nat → Loc} {M' : MemF} (h : ResOK w' new r z) (hρ : ρ' k = newLoc z) (hl : r.isV = false → (M' k).isSome = true) : Den0 ρ' M' (resA k r) z := by
  cases r with
  | val x => exact h
  | fa F => trivial
  | row e size n xs =>
    refine ⟨hl rfl, den_row h.1 (by rw [hρ]; rfl) ?_⟩
    intro g m c hz
    rw [hρ, hz]; rfl
  | view n size xs =>
    obtain ⟨⟨o', cap, rfl, hle, hlen, hnil, hone, hr⟩, hb⟩ := h
    refine ⟨hl rfl, o', cap, rfl, hle, ?_, hnil⟩
    by_cases h0 : n = 0
    · exact .inl h0
    · refine .inr ?_
      rw [hρ]
      cases o' with
      | none => have := hnil rfl; omega
      | some ad => simp [newLoc, Addr.add]
  | part n size xs =>
    obtain ⟨⟨o', cap, rfl, hle, hlen, hnil, hone, hr⟩, hb⟩ := h
    refine ⟨hl rfl, o', cap, rfl, hle, ?_, hnil⟩
    by_cases h0 : n = 0
    · exact .inl h0
    · refine .inr ?_
      rw [hρ]
      cases o' with
      | none => have := hnil rfl; omega
      | some ad => simp [newLoc, Addr.add]

theorem denL_ress {w' : World} {new : Nat → Prop} {ρ' : Nat → Loc} {M' : MemF} : ∀ {rs : List Res} {zs : List Value} {j : Nat}, RessOK w' new rs zs → (∀ i z, zs[i]? = some z → ρ' (j + i) = newLoc z) →
    (∀ i r, rs[i]? = some r → r.isV = false → (M' (j + i)).isSome = true) → DenL ρ' M' (ressA j rs) zs
  | [], [], _, _, _, _ => trivial
  | r :: rs, z :: zs, j, h, hρ, hl => by
    refine ⟨den_newLoc h.1 (by simpa using hρ 0 z rfl) (by simpa using hl 0 r rfl), denL_ress h.2.1 (fun i z' hz => ?_) (fun i r' hr => ?_)⟩
    · have := hρ (i + 1) z' (by simpa using hz)
      rw [← this]; congr 1; omega
    · have := hl (i + 1) r' (by simpa using hr)
      have e : j + 1 + i = j + (i + 1) := by omega
      rw [e]; exact this
  | [], _ :: _, _, h, _, _ => h.elim
  | _ :: _, [], _, h, _, _ => h.elim

theorem den_pack {ρ' : Nat → Loc} {M' : MemF} : ∀ {l : List A0} {zs : List Value}, DenL ρ' M' l zs → Den ρ' M' (packA l) (pack zs)
  | [], [], _ => ⟨[], rfl, trivial⟩
  | [_], [_], h => h.1
  | _ :: _ :: _, _ :: _ :: _, h => ⟨_, rfl, h⟩
  | [], _ :: _, h => h.elim
  | _ :: _, [], h => h.elim
  | [_], _ :: _ :: _, h => h.2.elim
  | _ :: _ :: _, [_], h => h.2.elim

theorem vals_eq {w : World} : ∀ {xs ys : List Value}, ArgsOK w (xs.map Arg.val) ys → ys = xs
  | [], [], _ => rfl
  | x :: xs, y :: ys, h => by
    have h1 : y = x := h.1
    rw [h1, vals_eq h.2]
  | [], _ :: _, h => h.elim
  | _ :: _, [], h => h.elim
theorem movedE_vals : ∀ (l : List AV) (xs : List Value), movedE l (xs.map Arg.val) = []
  | [], xs => by cases xs <;> rfl
  | x :: l, [] => by cases x with
    | o a0 => cases a0 <;> rfl
    | t l' => rfl
  | x :: l, y :: xs => by
    have ih := movedE_vals l xs
    cases x with
    | o a0 => cases a0 <;> exact ih
    | t l' => exact ih
theorem ressE_vals : ∀ (j : Nat) (zs : List Value), ressE j (zs.map Res.val) = []
  | _, [] => rfl
  | j, _ :: zs => by simp [ressE, resE, ressE_vals (j + 1) zs]
theorem denL_vals {ρ' : Nat → Loc} {M' : MemF} : ∀ (j : Nat) (zs : List Value), DenL ρ' M' (ressA j (zs.map Res.val)) zs
  | _, [] => trivial
  | j, _ :: zs => ⟨rfl, denL_vals (j + 1) zs⟩

theorem aft_blk {b : Arg} {e e0 : Ent} {l : Loc} (h4 : aftEnt b = some e) (h5 : ownEnt b e0) : e.blk l = e0.blk l := by
  cases b with
  | io e2 s n xs ys =>
    have h5 : e0 = _ := h5
    simp only [aftEnt, Option.some.injEq] at h4
    rw [h5, ← h4, blk_row, blk_row]
  | ib xs ys =>
    simp only [aftEnt, Option.some.injEq] at h4
    obtain ⟨rfl, h1, h2⟩ := h5
    rw [← h4]
    simp only [Ent.blk, h1, h2]
  | _ => cases h4
theorem own_own {B : Nat → Prop} {l : Loc} {w : World} {b : Arg} {e : Ent} {g : Nat} (h : EntSat B l w e) (ho : ownEnt b e) (hb : e.blk l = some g) : B g := by
  cases b with
  | mv e2 s n xs => have ho : e = _ := ho; subst ho; exact h.2.2.2 g hb
  | io e2 s n xs ys => have ho : e = _ := ho; subst ho; exact h.2.2.2 g hb
  | ib xs ys =>
    obtain ⟨rfl, hne, _⟩ := ho
    obtain ⟨b, ty, cur, ha, ho, _⟩ := h.2 hne
    simp only [Ent.blk, hne, ha] at hb
    have : b = g := by simpa using hb
    exact this ▸ ho
  | _ => exact ho.elim
theorem facts_ok {β : Type} {F : β → AV} {G : β → Value} {xs : List β} {as : List Arg} (h : SatS w0 ρ T M N a w) (hd : ∀ x, x ∈ xs → Den ρ M (F x) (G x)) (hm : argsMatch M (xs.map F) as) (hmv : ∀ b, moved as (xs.map G) b → w0.own b) :
    factsOK w w0.own as (xs.map G) := by
  intro i x F0 hi w' f
  have key : ∀ (xs : List β) (as : List Arg) (i : Nat), argsMatch M (xs.map F) as → as[i]? = some (.fa x F0) → ents M false F0 := by
    intro xs
    induction xs with
    | nil => intro as i hm hi; cases as with
      | nil => simp at hi
      | cons b as => exact hm.elim
    | cons y xs ih => intro as i hm hi; cases as with
      | nil => simp at hi
      | cons b as =>
        cases i with
        | zero =>
          simp at hi
          subst hi
          have hm1 := hm.1
          cases hy : F y with
          | o a0 =>
            cases a0 with
            | v x0 => rw [hy] at hm1; exact hm1.2
            | _ => rw [hy] at hm1; exact hm1.elim
          | t l => rw [hy] at hm1; exact hm1.elim
        | succ i => exact ih as i hm.2 (by simpa using hi)
  refine ents_at h.mem (key xs as i hm hi) ?_
  refine ⟨f.os.trans h.below.os, f.tape.trans h.below.tape, f.output.trans h.below.output, Nat.le_trans h.below.size f.size, Nat.le_trans h.below.drawn f.drawn, fun k hk hn => ?_⟩
  have e1 := h.below.block k hk fun x => hn (.inl x)
  refine (f.block k (Nat.lt_of_lt_of_le hk h.below.size) ?_).trans e1
  rintro (x | x | ⟨o, x, y⟩)
  · exact hn (.inl (hmv k x))
  · exact hn (.inl x)
  · exact hn (.inr (.inr ⟨o, by rw [← e1]; exact x, y⟩))
/-- The state behind a call. -/
theorem call_post {β : Type} {F : β → AV} {G : β → Value} {xs : List β} {as : List Arg} {rs : List Res} {zs : List Value} {w' : World} (h : SatS w0 ρ T M N a w) (hid : ∀ k, (M k).isSome = true → Out id k) (hd : ∀ x, x ∈ xs → Den ρ M (F x) (G x))
    (hm : argsMatch M (xs.map F) as) (hle4 : rs.length ≤ 4) (hfr : Fr w w' (moved as (xs.map G))) (hres : RessOK w' (fun b => w.heap.size ≤ b ∨ moved as (xs.map G) b) rs zs) (hios : iosOK w' as (xs.map G) rs zs) :
    ∃ ρ', (∀ k, Out id k → ρ' k = ρ k) ∧ SatM w0 ρ' (applyM M ⟨packA (ressA id rs), ressE id rs, movedE (xs.map F) as⟩) w' ∧ Fr w0.w w' w0.own ∧ DenL ρ' (applyM M ⟨packA (ressA id rs), ressE id rs, movedE (xs.map F) as⟩) (ressA id rs) zs := by
  have hsz := h.below.size
  have hlen := ress_len hres
  have hmv : ∀ b, moved as (xs.map G) b → w0.own b := by
    intro b hb
    obtain ⟨k, e, b', hoe, hMk, hbk, _⟩ := moved_dead (F := F) (G := G) h.mem hd hm hb
    exact own_own (h.mem.ent k _ hMk) hoe hbk
  obtain ⟨ρ', hloc, hout⟩ : ∃ ρ' : Nat → Loc, (∀ k z, id ≤ k → zs[k - id]? = some z → ρ' k = newLoc z) ∧ (∀ k, Out id k → ρ' k = ρ k) := by
    refine ⟨fun k => if id ≤ k then (match zs[k - id]? with | some z => newLoc z | none => ρ k) else ρ k, fun k z h1 h2 => by simp [h1, h2], fun k hk => ?_⟩
    by_cases h1 : id ≤ k
    · have : zs[k - id]? = none := by
        rw [List.getElem?_eq_none_iff]
        unfold Out at hk
        omega
      simp [h1, this]
    · simp [h1]
  refine ⟨ρ', hout, ?_, hfr.below h.below hmv, ?_⟩
  · have hkey : ∀ k e, applyM M ⟨packA (ressA id rs), ressE id rs, movedE (xs.map F) as⟩ k = some e →
        (id ≤ k ∧ ∃ r z, rs[k - id]? = some r ∧ zs[k - id]? = some z ∧ resE k r = [(k, e)]) ∨ e = .dead ∨ (Out id k ∧ ∃ e0, M k = some e0 ∧ (e.fresh = true → e0.fresh = true) ∧ e.blk (ρ k) = e0.blk (ρ k) ∧ ((e = e0 ∧ (movedE (xs.map F) as).get k = none) ∨ ioEnt F M xs as k e)) := by
      intro k e hk
      simp only [applyM] at hk
      cases hcr : (ressE id rs).get k with
      | some e' =>
        simp only [hcr, Option.some.injEq] at hk
        subst hk
        obtain ⟨h1, r, h2, h3⟩ := ressE_get hcr
        have hlt : k - id < zs.length := by rw [← hlen]; exact (List.getElem?_eq_some_iff.1 h2).1
        exact .inl ⟨h1, r, zs[k - id], h2, List.getElem?_eq_getElem hlt, h3⟩
      | none =>
        simp only [hcr] at hk
        cases hMk : M k with
        | none => simp [hMk] at hk
        | some e0 =>
          cases hwr : (movedE (xs.map F) as).get k with
          | some e1 =>
            simp only [hMk, hwr, Option.some.injEq] at hk
            subst hk
            rcases movedE_get hm hwr with rfl | hio
            · exact .inr (.inl rfl)
            · refine .inr (.inr ⟨hid k (by simp [hMk]), e0, rfl, ?_, ?_, .inr hio⟩)
              · obtain ⟨i, x, b, e2, _, _, _, _, h5, h6, _⟩ := hio
                rw [hMk, Option.some.injEq] at h6
                subst h6
                exact fun _ => own_fr h5
              · obtain ⟨i, x, b, e2, _, _, _, h4, h5, h6, _⟩ := hio
                rw [hMk, Option.some.injEq] at h6
                subst h6
                exact aft_blk h4 h5
          | none =>
            simp only [hMk, hwr, Option.some.injEq] at hk
            subst hk
            exact .inr (.inr ⟨hid k (by simp [hMk]), e0, rfl, fun h => h, rfl, .inl ⟨rfl, rfl⟩⟩)
    have hold : ∀ k e b, M k = some e → (movedE (xs.map F) as).get k = none → e.blk (ρ k) = some b → ¬ moved as (xs.map G) b := by
      intro k e b hMk hno hb hmb
      obtain ⟨k', e', b', hoe, hMk', hbk', hdd⟩ := moved_dead (F := F) (G := G) h.mem hd hm hmb
      have hne : k' ≠ k := by intro e0; subst e0; rw [hno] at hdd; cases hdd
      rcases h.mem.apart k' _ k e hMk' (own_fr hoe) hMk hne with hn | hn
      · rw [hbk'] at hn; cases hn
      · exact hn (by rw [hbk', hb])
    have hblkres : ∀ k r z e, ResOK w' (fun b => w.heap.size ≤ b ∨ moved as (xs.map G) b) r z → resE k r = [(k, e)] → e.blk (newLoc z) = ResBlk r z ∧ (∀ b, ResBlk r z = some b → w.heap.size ≤ b ∨ moved as (xs.map G) b) := by
      intro k r z e hro hre
      cases r with
      | val x => simp [resE] at hre
      | fa F0 => simp [resE] at hre
      | row e' size n xs =>
        simp only [resE, List.cons.injEq, Prod.mk.injEq, true_and, and_true] at hre
        subst hre
        exact ⟨rfl, fun b hb => hro.2.2 b hb⟩
      | view n size xs =>
        simp only [resE, List.cons.injEq, Prod.mk.injEq, true_and, and_true] at hre
        subst hre
        obtain ⟨⟨o', cap, rfl, hle, hlen', hnil, hone, hrd⟩, hb⟩ := hro
        refine ⟨?_, fun b hb' => ?_⟩
        · simp only [Ent.blk, ResBlk]
          split
          · rfl
          · rename_i hne
            have : xs ≠ [] := by intro e0; subst e0; simp at hne
            obtain ⟨ad, rfl, _⟩ := hrd this
            simp [newLoc, Value.ownBlock]
        · simp only [ResBlk] at hb'
          split at hb'
          · cases hb'
          · rename_i hne
            exact hb b (by simpa using hne) hb'
      | part n size xs =>
        simp only [resE, List.cons.injEq, Prod.mk.injEq, true_and, and_true] at hre
        subst hre
        obtain ⟨⟨o', cap, hz, hle, hlen', hnil, hone, hrd⟩, hb⟩ := hro
        refine ⟨?_, fun b hb' => ?_⟩
        · simp only [Ent.blk, ResBlk]
          split
          · rfl
          · rename_i hne
            obtain ⟨b, c, ty, cur, rfl, _⟩ := hb (by simpa using hne)
            simp [newLoc, Value.ownBlock]
        · simp only [ResBlk] at hb'
          split at hb'
          · cases hb'
          · rename_i hne
            obtain ⟨b2, c, ty, cur, hz2, hn, _⟩ := hb (by simpa using hne)
            rw [hz2] at hb'
            simp only [Value.ownBlock, Option.some.injEq] at hb'
            subst hb'
            exact hn
    have hio : ∀ k e, ioEnt F M xs as k e → EntSat w0.own (ρ k) w' e ∧ (∀ cs, e ≠ .hdr cs) ∧ (∀ j l, e ≠ .sav j l) ∧ ∃ e0, M k = some e0 ∧ ∀ b, e0.blk (ρ k) = some b → ∀ (j : Nat) (r : Res) (z : Value), rs[j]? = some r → zs[j]? = some z → ResBlk r z ≠ some b := by
      rintro k e ⟨i, x, b, e0, h1, h2, h3, h4, h5, h6, h7⟩
      have hx : x ∈ xs := List.mem_of_getElem? h1
      have hdx := hd x hx
      have hg : (xs.map G)[i]? = some (G x) := by rw [List.getElem?_map, h1, Option.map_some]
      obtain ⟨q1, q2⟩ := hios i _ _ h2 hg
      have hblk := own_blk (F := F) (G := G) h.mem hdx h3 h5 h6 h7
      have hold := h.mem.ent k e0 h6
      refine ⟨?_, ?_, ?_, e0, h6, fun b' hb' => q2 (by cases b <;> first | rfl | cases h4) b' (by rw [hblk]; exact hb')⟩
      · cases b with
        | io e2 s n xs' ys' =>
          simp only [aftEnt, Option.some.injEq] at h4
          have h5 : e0 = _ := h5
          subst h4 h5
          have hv : G x = (ρ k).v := by
            rcases h3 with ⟨n0, h3⟩ | h3
            · rw [h3] at hdx; exact hdx.2.1
            · rw [h3] at h7; exact h7.elim
          obtain ⟨_, r2, _, r4⟩ := hold
          exact ⟨hv ▸ q1.1, r2, q1.2, r4⟩
        | ib xs' ys' =>
          simp only [aftEnt, Option.some.injEq] at h4
          obtain ⟨rfl, n1, n2⟩ := h5
          subst h4
          have h3 : F x = .o (.p k 0) := by
            rcases h3 with ⟨n0, h3⟩ | h3
            · rw [h3] at h7; exact h7.elim
            · exact h3
          rw [h3] at hdx
          obtain ⟨_, b1, ty1, cur1, y1, a1, o1, _⟩ := ib_arg h.mem hdx h6 n1
          obtain ⟨_, c1, b2, ty2, cur2, y2, c2, c3⟩ := q1
          rw [y1] at y2
          have hbb : b1 = b2 := by simpa using y2
          subst hbb
          exact ⟨c1, fun _ => ⟨b1, ty2, cur2, a1, o1, c2, c3⟩⟩
        | _ => cases h4
      · intro cs h0; subst h0; cases b <;> simp [aftEnt] at h4
      · intro j l h0; subst h0; cases b <;> simp [aftEnt] at h4
    have hl : ∀ k, (M k).isSome = true → (applyM M ⟨packA (ressA id rs), ressE id rs, movedE (xs.map F) as⟩ k).isSome = true ∧ ρ' k = ρ k := fun k hk => ⟨live_applyM hk, hout k (hid k hk)⟩
    refine ⟨?_, ?_, ?_, ?_, fun k rt F0 hk => ?_⟩
    rotate_right
    · rcases hkey k _ hk with ⟨h1, r, z, h2, h3, h4⟩ | h0 | ⟨hlt, e0, hMk, _, _, ⟨rfl, hno⟩ | ⟨i, x, b, e2, _, _, _, h4, _⟩⟩
      · cases r <;> simp [resE] at h4
      · cases h0
      · exact h.mem.fct k rt F0 hMk
      · cases b <;> simp [aftEnt] at h4
    rotate_left
    · intro k cs hk
      rcases hkey k _ hk with ⟨h1, r, z, h2, h3, h4⟩ | h0 | ⟨hlt, e0, hMk, _, _, ⟨rfl, hno⟩ | hi⟩
      · cases r <;> simp [resE] at h4
      · cases h0
      · exact h.mem.hdr_keep hfr hl hMk (fun b hb => hold k _ b hMk hno hb)
      · exact absurd rfl ((hio k _ hi).2.1 _)
    · intro k j l' hk
      rcases hkey k _ hk with ⟨h1, r, z, h2, h3, h4⟩ | h0 | ⟨hlt, e0, hMk, _, _, ⟨rfl, hno⟩ | hi⟩
      · cases r <;> simp [resE] at h4
      · cases h0
      · exact h.mem.sav_keep hl hMk
      · exact absurd rfl ((hio k _ hi).2.2.1 _ _)
    rotate_left
    · intro k e hk
      rcases hkey k e hk with ⟨h1, r, z, h2, h3, h4⟩ | rfl | ⟨hlt, e0, hMk, _, _, ⟨rfl, hno⟩ | hi⟩
      · try simp only []
        rw [hloc k z h1 h3]
        have hro := ress_at hres h2 h3
        cases r with
        | val x => simp [resE] at h4
        | fa F0 => simp [resE] at h4
        | row e' size n xs =>
          simp only [resE, List.cons.injEq, Prod.mk.injEq, true_and, and_true] at h4
          subst h4
          obtain ⟨hown, hone, hnew⟩ := hro
          refine ⟨hown, fun g m c hv => by simp only [newLoc] at hv ⊢; subst hv; rfl, hone, fun b hb => ?_⟩
          rcases hnew b hb with hg | hg
          · exact w0.new b (Nat.le_trans hsz hg)
          · exact hmv b hg
        | part n size xs =>
          simp only [resE, List.cons.injEq, Prod.mk.injEq, true_and, and_true] at h4
          subst h4
          obtain ⟨⟨o', cap, hz, hle, hlen', hnil, hone, hrd⟩, hb⟩ := hro
          refine ⟨hone, fun hne => ?_⟩
          obtain ⟨b2, c, ty, cur, hz2, hn, hh, ht⟩ := hb hne
          refine ⟨b2, ty, cur, by rw [hz2]; rfl, ?_, hh, ht⟩
          rcases hn with hg | hg
          · exact w0.new b2 (Nat.le_trans hsz hg)
          · exact hmv b2 hg
        | view n size xs =>
          simp only [resE, List.cons.injEq, Prod.mk.injEq, true_and, and_true] at h4
          subst h4
          obtain ⟨⟨o', cap, rfl, hle, hlen', hnil, hone, hrd⟩, hb⟩ := hro
          refine ⟨fun j v hj => ?_, hone, fun _ hne => ?_⟩
          · have hx : xs ≠ [] := by intro e0; subst e0; simp at hj
            obtain ⟨ad, rfl, hrd2⟩ := hrd hx
            exact hrd2 j v hj
          · have hx : xs ≠ [] := by intro e0; subst e0; simp at hne
            obtain ⟨ad, rfl, hrd2⟩ := hrd hx
            rcases hb ad.block hne rfl with hg | hg
            · exact w0.new _ (Nat.le_trans hsz hg)
            · exact hmv _ hg
      · trivial
      · rw [hout k hlt]
        exact (h.mem.ent k e hMk).frame hfr (fun b hb => hold k e b hMk hno hb)
      · rw [hout k hlt]
        exact (hio k _ hi).1
    · intro k e k' e' hk ho hk' hne
      rcases hkey k e hk with ⟨h1, r, z, h2, h3, h4⟩ | rfl | ⟨hlt, e0, hMk, hfs, hbe, hw⟩
      · have hb1 := hblkres k r z e (ress_at hres h2 h3) h4
        try simp only []
        rw [hloc k z h1 h3]
        rcases hkey k' e' hk' with ⟨h1', r', z', h2', h3', h4'⟩ | rfl | ⟨hlt', e0', hMk', hfs', hbe', hw'⟩
        · rw [hloc k' z' h1' h3']
          have hb2 := hblkres k' r' z' e' (ress_at hres h2' h3') h4'
          rw [hb1.1, hb2.1]
          cases hbb : ResBlk r z with
          | none => exact .inl rfl
          | some b =>
            refine .inr fun hc => ?_
            rcases Nat.lt_or_gt_of_ne (show k - id ≠ k' - id by omega) with hlt | hlt
            · exact ress_apart hres hlt h2 h3 h2' h3' hbb hc.symm
            · exact ress_apart hres hlt h2' h3' h2 h3 hc.symm hbb
        · cases hbb : e.blk (newLoc z) with
          | none => exact .inl rfl
          | some b => exact .inr (by simp [blk_dead])
        · rw [hout k' hlt']
          rw [hb1.1]
          cases hbb : ResBlk r z with
          | none => exact .inl rfl
          | some b =>
            refine .inr fun hc => ?_
            rw [hbe'] at hc
            rcases hw' with ⟨_, hno'⟩ | hi'
            · rcases hb1.2 b hbb with hg | hg
              · have := (h.mem.ent k' e0' hMk').lt hc.symm
                omega
              · exact hold k' e0' b hMk' hno' hc.symm hg
            · obtain ⟨_, _, _, e2, h5, q2⟩ := hio k' _ hi'
              rw [hMk', Option.some.injEq] at h5
              rw [h5] at hc
              exact q2 b hc.symm _ r z h2 h3 hbb
      · simp [Ent.fresh] at ho
      · rw [hout k hlt]
        rcases hkey k' e' hk' with ⟨h1', r', z', h2', h3', h4'⟩ | rfl | ⟨hlt', e0', hMk', hfs', hbe', hw'⟩
        · rw [hloc k' z' h1' h3']
          have hb2 := hblkres k' r' z' e' (ress_at hres h2' h3') h4'
          rw [hb2.1]
          cases hbb : e.blk (ρ k) with
          | none => exact .inl rfl
          | some b =>
            refine .inr fun hc => ?_
            rw [hbe] at hbb
            rcases hw with ⟨_, hno⟩ | hi
            · rcases hb2.2 b hc.symm with hg | hg
              · have := (h.mem.ent k e0 hMk).lt hbb
                omega
              · exact hold k e0 b hMk hno hbb hg
            · obtain ⟨_, _, _, e2, h5, q2⟩ := hio k _ hi
              rw [hMk, Option.some.injEq] at h5
              rw [h5] at hbb
              exact q2 b hbb _ r' z' h2' h3' hc.symm
        · cases hbb : e.blk (ρ k) with
          | none => exact .inl rfl
          | some b => exact .inr (by simp [blk_dead])
        · rw [hout k' hlt']
          rw [hbe, hbe']
          exact h.mem.apart k e0 k' e0' hMk (hfs ho) hMk' hne
  · refine denL_ress hres (fun i z hz => hloc (id + i) z (by omega) (by simpa using hz)) (fun i r hr hn => ?_)
    have := ressE_live (j := id) hr hn
    unfold applyM
    cases hg : (ressE id rs).get (id + i) with
    | some e => rfl
    | none => rw [hg] at this; cases this

theorem call_gen {β : Type} {F : β → AV} {G : β → Value} {xs : List β} {f : Nat} {u : Upd} (h : SatS w0 ρ T M N a w) (hid : ∀ k, (M k).isSome = true → Out id k) (hd : ∀ x, x ∈ xs → Den ρ M (F x) (G x))
    (hr1 : callable P f → (execOp a.eval o).run P w = .ok (.enter f (xs.map G).toArray) w) (hr2 : ∀ z, (callFunc f (xs.map G).toArray).run P w = .ok (.value z) w → (execOp a.eval o).run P w = .ok (.value z) w)
    (hok : callOK P M id f (xs.map F) u) (hK : Goes w0 ρ M id u fun y w' => K (a.put o.dst y) w') : o.wp P a w K Q := by
  obtain ⟨as, rs, hc12, hm, hle4, hap, rfl⟩ := hok
  have hargs := args_ok (F := F) (G := G) h.mem h.below hd hm
  rcases hc12 with ⟨hcallable, hcon⟩ | ⟨vs, zs, rfl, rfl, hrun⟩
  case inr =>
    have hxs : xs.map G = vs := vals_eq hargs
    have hmv : movedE (xs.map F) (vs.map Arg.val) = [] := movedE_vals _ _
    have hcr : ressE id (zs.map Res.val) = [] := ressE_vals _ _
    rw [hmv, hcr] at hK
    refine pure_step (r := packA (ressA id (zs.map Res.val))) h (y := pack zs) ?_ (den_pack (denL_vals _ _)) hK
    exact hr2 _ (by rw [hxs]; exact hrun w)
  have hapart : apartArgs as (xs.map G) ∧ (movedE (xs.map F) as = [] → ∀ b, ¬ moved as (xs.map G) b) := by
    rcases hap with h0 | h0
    · exact ⟨(apart_none (F := F) (G := G) hm h0).1, fun _ => (apart_none (F := F) (G := G) hm h0).2⟩
    · exact ⟨apart_ok (F := F) (G := G) h.mem hd hm h0, fun h0 => (apart_none (F := F) (G := G) hm h0).2⟩
  have hmv : ∀ b, moved as (xs.map G) b → w0.own b := by
    intro b hb
    obtain ⟨k, e, b', hoe, hMk, hbk, _⟩ := moved_dead (F := F) (G := G) h.mem hd hm hb
    exact own_own (h.mem.ent k _ hMk) hoe hbk
  have hcalls := hcon w (xs.map G) w0.own hargs hapart.1 (facts_ok h hd hm hmv)
  have hsz := h.below.size
  unfold Oper.wp
  have hr := hr1 hcallable
  rw [hr, Oper.upon_enter]
  refine hcalls.mono ?_
  rintro e w' ⟨zs, rfl, hfr, hres, hios, _⟩
  obtain ⟨ρ', h1, h2, h3, h4⟩ := call_post h hid hd hm hle4 hfr hres hios
  exact hK (pack zs) w' ρ' h1 h2 h3 (den_pack h4)
theorem call_op {c : Go.Call} {f : Nat} {u : Upd} (h : SatS w0 ρ T M N a w) (hid : ∀ k, (M k).isSome = true → Out id k) (hop : o.op = .call c) (hcal : c.callee = .value (.func f))
    (hok : callOK P M id f (c.args.toList.map (ev T)) u) (hK : Goes w0 ρ M id u fun y w' => K (a.put o.dst y) w') : o.wp P a w K Q := by
  have hmap : (c.args.toList.map a.eval).toArray = c.args.map a.eval := by rw [← Array.toList_map, Array.toArray_toList]
  have he : a.eval (.func f) = .func (.func f) #[] #[] := rfl
  refine call_gen (F := ev T) (G := a.eval) (xs := c.args.toList) h hid (fun x _ => h.eval x) (fun hc => ?_) (fun z hc => ?_) hok hK
  · have hc := hc (c.args.toList.map a.eval).toArray w
    rw [hmap] at hc ⊢
    simp [execOp, hop, resolve, hcal, he, Deferred.ofValue, invoke, hc]
  · rw [hmap] at hc
    simp [execOp, hop, resolve, hcal, he, Deferred.ofValue, invoke, hc]
/-- A function value called: it gets its boxes behind the arguments. -/
theorem clo_op {c : Go.Call} {f i : Nat} {ks : List Nat} {u : Upd} (h : SatS w0 ρ T M N a w) (hid : ∀ k, (M k).isSome = true → Out id k) (hop : o.op = .call c) (hcal : c.callee = .value (.tmp i)) (hT : T i = .o (.fn f ks))
    (hok : callOK P M id f (c.args.toList.map (ev T) ++ ks.map fun k => .o (.p k 0)) u) (hK : Goes w0 ρ M id u fun y w' => K (a.put o.dst y) w') : o.wp P a w K Q := by
  have hd := h.slot i
  rw [hT] at hd
  obtain ⟨hlive, hy⟩ := hd
  let F : Operand ⊕ Nat → AV := Sum.elim (ev T) fun k => .o (.p k 0)
  let G : Operand ⊕ Nat → Value := Sum.elim a.eval fun k => .pointer (some (ρ k).a)
  let xs : List (Operand ⊕ Nat) := c.args.toList.map .inl ++ ks.map .inr
  have eF : xs.map F = c.args.toList.map (ev T) ++ ks.map fun k => .o (.p k 0) := by simp [xs, F, Function.comp_def]
  have eG : xs.map G = c.args.toList.map a.eval ++ ks.map fun k => Value.pointer (some (ρ k).a) := by simp [xs, G, Function.comp_def]
  rw [← eF] at hok
  have h0 : a.eval (.tmp i) = .func (.func f) #[] (ks.map fun k => Value.pointer (some (ρ k).a)).toArray := hy
  have hmap : (c.args.toList.map a.eval ++ ks.map fun k => Value.pointer (some (ρ k).a)).toArray = c.args.map a.eval ++ (ks.map fun k => Value.pointer (some (ρ k).a)).toArray := by
    rw [← List.append_toArray, ← Array.toList_map, Array.toArray_toList]
  refine call_gen (F := F) (G := G) (xs := xs) h hid (fun x hx => ?_) (fun hc => ?_) (fun z hc => ?_) hok hK
  · rcases List.mem_append.1 hx with hx | hx
    · obtain ⟨y, _, rfl⟩ := List.mem_map.1 hx
      exact h.eval y
    · obtain ⟨k, hk, rfl⟩ := List.mem_map.1 hx
      exact ⟨hlive k hk, by simp [G, Addr.add]⟩
  · have hc := hc (xs.map G).toArray w
    rw [eG, hmap] at hc ⊢
    simp [execOp, hop, resolve, hcal, h0, Deferred.ofValue, invoke, hc]
  · rw [eG, hmap] at hc
    simp [execOp, hop, resolve, hcal, h0, Deferred.ofValue, invoke, hc]
end
end Go.Sx
namespace Go.Sx
section
variable {P : Program} {w0 : Base} {ρ : Nat → Loc} {T : Nat → AV} {M : MemF} {N : Nat} {a : Act} {w : World} {id : Nat} {o : Oper}
  {K : Act → World → Prop} {Q : Exit → Act → World → Prop}

/-- Neither a pure operation nor a call. -/
def Eff.okf : Eff → Prop
  | .ok _ _ => True
  | .fail => True
  | _ => False
theorem loadEff_no {ty : TypeId} {k off : Nat} {e : Eff} (h : loadEff P M ty k off = e) : e.okf := by
  subst h; unfold loadEff hdrLoad; repeat' split
  all_goals trivial
theorem storeEff_no {ty : TypeId} {k off : Nat} {z : Value} {e : Eff} (h : storeEff P M ty k off z = e) : e.okf := by
  subst h; unfold storeEff; repeat' split
  all_goals trivial
theorem storeRef_no {ty : TypeId} {k off : Nat} {z : A0} {e : Eff} (h : storeRef P M ty k off z = e) : e.okf := by
  subst h; unfold storeRef; repeat' split
  all_goals trivial
theorem storeA_no {ty : TypeId} {k off : Nat} {z : A0} {e : Eff} (h : storeA P M ty k off z = e) : e.okf := by
  cases z <;> simp only [storeA] at h <;> first | exact storeEff_no h | exact storeRef_no h | (subst h; trivial)
theorem boxEff_no {id : Nat} {z : A0} {e : Eff} (h : boxEff id z = e) : e.okf := by
  subst h; cases z <;> trivial
theorem fnEff_no {f : Fn} {l : List Operand} {o : Option (List Nat)} {e : Eff} (h : fnEff f l o = e) : e.okf := by
  subst h; unfold fnEff; split <;> trivial
theorem sliceEff_no {k off sz len : Nat} {lo hi mx : Option AV} {e : Eff} (h : sliceEff k off sz len lo hi mx = e) : e.okf := by
  subst h; unfold sliceEff; repeat' split
  all_goals trivial

theorem nilEff_no {op : BinOp} {s : Option Nat} {n : Nat} {e : Eff} (h : nilEff op s n = e) : e = .fail ∨ ∃ S, e = .nd S := by
  subst h; unfold nilEff; repeat' split
  all_goals first | exact .inl rfl | exact .inr ⟨_, rfl⟩
theorem ex_spec {op : Op} {S : Value → Prop} (he : opEff P T M id op = .ex S) : S = pureOp P T op := by
  cases op <;> simp only [opEff, binOn] at he <;> try (repeat' split at he) <;> first | (cases he; done) | (simp only [Eff.ex.injEq] at he; exact he.symm) | skip
  all_goals
    first
      | exact (show False from loadEff_no he).elim
      | exact (show False from storeA_no he).elim
      | exact (show False from boxEff_no he).elim
      | exact (show False from fnEff_no he).elim
      | exact (show False from sliceEff_no he).elim
      | (rcases nilEff_no he with h | ⟨_, h⟩ <;> cases h; done)
      | (unfold binEff at he; repeat' split at he) <;> first | (cases he; done) | (simp only [Eff.ex.injEq] at he; exact he.symm)

theorem call_spec {op : Op} {f : Nat} {args : List AV} (he : opEff P T M id op = .call f args) : ∃ c : Go.Call, op = .call c ∧ c.callee = .value (.func f) ∧ args = c.args.toList.map (ev T) := by
  cases op with
  | call c =>
    simp only [opEff] at he
    split at he
    · rename_i g hg
      simp only [Eff.call.injEq] at he
      obtain ⟨rfl, rfl⟩ := he
      exact ⟨c, rfl, hg, rfl⟩
    all_goals ((repeat' split at he) <;> cases he)
  | _ =>
    simp only [opEff, binOn] at he
    (try (repeat' split at he)) <;> first
      | (cases he; done)
      | exact (show False from loadEff_no he).elim
      | exact (show False from storeA_no he).elim
      | exact (show False from boxEff_no he).elim
      | exact (show False from fnEff_no he).elim
      | exact (show False from sliceEff_no he).elim
      | (rcases nilEff_no he with h | ⟨_, h⟩ <;> cases h; done)
      | ((unfold binEff at he; repeat' split at he) <;> cases he)

theorem clo_spec {op : Op} {f : Nat} {args : List AV} (he : opEff P T M id op = .clo f args) : ∃ (c : Go.Call) (i : Nat) (ks : List Nat), op = .call c ∧ c.callee = .value (.tmp i) ∧ T i = .o (.fn f ks) ∧ args = c.args.toList.map (ev T) ++ ks.map fun k => .o (.p k 0) := by
  cases op with
  | call c =>
    simp only [opEff] at he
    split at he
    · cases he
    · rename_i i hg
      split at he
      · rename_i g ks hT
        simp only [Eff.clo.injEq] at he
        obtain ⟨rfl, rfl⟩ := he
        exact ⟨c, i, ks, rfl, hg, hT, rfl⟩
      · cases he
    all_goals ((repeat' split at he) <;> cases he)
  | _ =>
    simp only [opEff, binOn] at he
    (try (repeat' split at he)) <;> first
      | (cases he; done)
      | exact (show False from loadEff_no he).elim
      | exact (show False from storeA_no he).elim
      | exact (show False from boxEff_no he).elim
      | exact (show False from fnEff_no he).elim
      | exact (show False from sliceEff_no he).elim
      | (rcases nilEff_no he with h | ⟨_, h⟩ <;> cases h; done)
      | ((unfold binEff at he; repeat' split at he) <;> cases he)

theorem nd_spec {op : Op} {S : Bool → Prop} (he : opEff P T M id op = .nd S) : ∃ bop ty x y ty' n e, op = .binOp bop ty x y ty' ∧ ev T y = .o (.v (.slice none 0 0)) ∧ ((∃ k off, ev T x = .o (.s k off n)) ∨ ∃ k, ev T x = .o (.r k n)) ∧ P.underlying ty = some (.slice e) ∧
    ((bop = .eql ∧ S = fun b => b = true → n = 0) ∨ (bop = .neq ∧ S = fun b => b = false → n = 0)) := by
  have key : ∀ bop ty x y ty' n, op = .binOp bop ty x y ty' → ev T y = .o (.v (.slice none 0 0)) → ((∃ k off, ev T x = .o (.s k off n)) ∨ ∃ k, ev T x = .o (.r k n)) → nilEff bop (slI P ty) n = .nd S →
      ∃ bop ty x y ty' n e, op = .binOp bop ty x y ty' ∧ ev T y = .o (.v (.slice none 0 0)) ∧ ((∃ k off, ev T x = .o (.s k off n)) ∨ ∃ k, ev T x = .o (.r k n)) ∧ P.underlying ty = some (.slice e) ∧
    ((bop = .eql ∧ S = fun b => b = true → n = 0) ∨ (bop = .neq ∧ S = fun b => b = false → n = 0)) := by
    intro bop ty x y ty' n h1 h2 h3 h4
    unfold nilEff at h4
    split at h4
    · rename_i s hs
      obtain ⟨e, hu, _⟩ := slI_spec hs
      refine ⟨bop, ty, x, y, ty', n, e, h1, h2, h3, hu, ?_⟩
      split at h4
      · simp only [Eff.nd.injEq] at h4; exact .inl ⟨rfl, h4.symm⟩
      · simp only [Eff.nd.injEq] at h4; exact .inr ⟨rfl, h4.symm⟩
      · cases h4
    · cases h4
  cases op with
  | binOp bop ty x y ty' =>
    simp only [opEff, binOn] at he
    split at he
    · unfold binEff at he
      repeat' split at he
      all_goals cases he
    · rename_i k off n hx hy; exact key bop ty x y ty' n rfl hy (.inl ⟨k, off, hx⟩) he
    · rename_i k n hx hy; exact key bop ty x y ty' n rfl hy (.inr ⟨k, hx⟩) he
    · cases he
  | _ =>
    simp only [opEff] at he
    (try (repeat' split at he)) <;> first
      | (cases he; done)
      | exact (show False from loadEff_no he).elim
      | exact (show False from storeA_no he).elim
      | exact (show False from boxEff_no he).elim
      | exact (show False from fnEff_no he).elim
      | exact (show False from sliceEff_no he).elim

theorem unOp_op {uop : UnOp} {ty : TypeId} {x : Operand} {c : Prop} {u : Upd} (h : SatS w0 ρ T M N a w) (hop : o.op = .unOp uop ty x)
    (he : opEff P T M id (.unOp uop ty x) = .ok c u) (hK : Goes w0 ρ M id u fun y w' => K (a.put o.dst y) w') : o.wp P a w K Q := by
  simp only [opEff] at he
  split at he
  · rename_i b hx
    have hv := h.evv hx
    simp only [Eff.ok.injEq] at he
    obtain ⟨rfl, rfl⟩ := he
    refine pure_step (r := .o (.v (.bool (!b)))) h (y := .bool (!b)) ?_ rfl hK
    simp [execOp, hop, hv, Op.unary]
  · rename_i k n hx
    have hv := h.evv hx
    simp only [Eff.ok.injEq] at he
    obtain ⟨rfl, rfl⟩ := he
    refine pure_step (r := .o (.v (.int k (k.wrap (0 - n))))) h (y := .int k (k.wrap (0 - n))) ?_ rfl hK
    simp [execOp, hop, hv, Op.unary, Op.intArith]
  · cases he

theorem convert_op {src dst : TypeId} {x : Operand} {c : Prop} {u : Upd} (h : SatS w0 ρ T M N a w) (hop : o.op = .convert src dst x)
    (he : opEff P T M id (.convert src dst x) = .ok c u) (hK : Goes w0 ρ M id u fun y w' => K (a.put o.dst y) w') : o.wp P a w K Q := by
  simp only [opEff] at he
  split at he
  · rename_i k0 n d k hx hs hd
    have hv := h.evv hx
    simp only [Eff.ok.injEq] at he
    obtain ⟨rfl, rfl⟩ := he
    unfold intT at hd
    cases hu : P.underlying dst with
    | none => simp [hu] at hd
    | some dd =>
      rw [hu] at hd
      simp only [Option.bind_some] at hd
      unfold intD at hd
      split at hd
      · simp only [Option.some.injEq] at hd
        subst hd
        refine pure_step (r := .o (.v (.int _ _))) h (y := .int _ _) ?_ rfl hK
        simp [execOp, hop, hv, convert, run_underlying hs, run_underlying hu, Conv.intToInt]
      · cases hd
  · cases he

theorem len_op {c : Go.Call} {c' : Prop} {u : Upd} (h : SatS w0 ρ T M N a w) (hop : o.op = .call c) (hcal : c.callee = .builtin .len)
    (he : opEff P T M id (.call c) = .ok c' u) (hK : Goes w0 ρ M id u fun y w' => K (a.put o.dst y) w') : o.wp P a w K Q := by
  simp only [opEff, hcal] at he
  split at he
  · rename_i x ty hxs htys
    have hxs' : c.args = #[x] := by rw [← Array.toArray_toList (xs := c.args), hxs]
    have htys' : c.argTypes = #[ty] := by rw [← Array.toArray_toList (xs := c.argTypes), htys]
    split at he
    · rename_i k off len s hx hsl
      have hv := h.eval x
      rw [hx] at hv
      obtain ⟨_, o', cap, hv, _⟩ := hv
      obtain ⟨e, hu, _⟩ := slI_spec hsl
      simp only [Eff.ok.injEq] at he
      obtain ⟨rfl, rfl⟩ := he
      refine pure_step (r := .o (.v (.int .i64 len))) h (y := .int .i64 len) ?_ rfl hK
      simp [execOp, hop, resolve, hcal, hxs', htys', invoke, builtin, hv, Builtin.len_, run_underlying hu, goInt]
    · rename_i k n s hx hsl
      have hv := h.eval x
      rw [hx] at hv
      obtain ⟨_, _, o', cap, hv, _⟩ := hv
      obtain ⟨e', hu, _⟩ := slI_spec hsl
      simp only [Eff.ok.injEq] at he
      obtain ⟨rfl, rfl⟩ := he
      refine pure_step (r := .o (.v (.int .i64 n))) h (y := .int .i64 n) ?_ rfl hK
      simp [execOp, hop, resolve, hcal, hxs', htys', invoke, builtin, hv, Builtin.len_, run_underlying hu, goInt]
    · cases he
  · cases he

theorem append_op {c : Go.Call} {c' : Prop} {u : Upd} (h : SatS w0 ρ T M N a w) (hid : ∀ k, (M k).isSome = true → Out id k) (hop : o.op = .call c) (hcal : c.callee = .builtin .append)
    (he : opEff P T M id (.call c) = .ok c' u) (hc : c') (hK : Goes w0 ρ M id u fun y w' => K (a.put o.dst y) w') : o.wp P a w K Q := by
  simp only [opEff, hcal] at he
  split at he
  · rename_i x y ty ty' hxs htys
    have hxs' : c.args = #[x, y] := by rw [← Array.toArray_toList (xs := c.args), hxs]
    have htys' : c.argTypes = #[ty, ty'] := by rw [← Array.toArray_toList (xs := c.argTypes), htys]
    split at he
    · rename_i m hm
      split at he
      · rename_i q news hy
        split at he
        · rename_i k n0 hx
          split at he
          · rename_i e sz n xs hM
            simp only [Eff.ok.injEq] at he
            obtain ⟨rfl, rfl⟩ := he
            obtain ⟨rfl, h1, h2, h3, h4, h5, h6, h7⟩ := hc
            exact append_new h hid hop hcal hxs' htys' hm hx hM hy h1 h2 h3 h4 h5 h6 h7 hK
          · cases he
        · rename_i hx
          simp only [Eff.ok.injEq] at he
          obtain ⟨rfl, rfl⟩ := he
          obtain ⟨rfl, h3, h4, h5, h6, h7⟩ := hc
          exact append_nil_new h hid hop hcal hxs' htys' hm hx hy h3 h4 h5 h6 h7 hK
        · cases he
      · cases he
    · cases he
  · cases he

theorem op_sound {op : Op} {u : Upd} (h : SatS w0 ρ T M N a w) (hid : ∀ k, (M k).isSome = true → Out id k) (hop : o.op = op) (hok : OpOK P T M id op u)
    (hK : Goes w0 ρ M id u fun y w' => K (a.put o.dst y) w') : o.wp P a w K Q := by
  unfold OpOK at hok
  split at hok
  · exact hok.elim
  · rename_i c u' he
    obtain ⟨hc, rfl⟩ := hok
    cases op with
    | move x =>
      simp only [opEff, Eff.ok.injEq] at he
      obtain ⟨_, rfl⟩ := he
      exact pure_step h (y := a.eval x) (by simp [execOp, hop]) (h.eval x) hK
    | assign x =>
      simp only [opEff, Eff.ok.injEq] at he
      obtain ⟨_, rfl⟩ := he
      exact pure_step h (y := a.eval x) (by simp [execOp, hop]) (h.eval x) hK
    | pick p x y =>
      simp only [opEff] at he
      split at he
      · rename_i hp
        have hv := h.evv hp
        simp only [Eff.ok.injEq] at he
        obtain ⟨_, rfl⟩ := he
        exact pure_step h (y := a.eval x) (by simp [execOp, hop, hv, asBool]) (h.eval x) hK
      · rename_i hp
        have hv := h.evv hp
        simp only [Eff.ok.injEq] at he
        obtain ⟨_, rfl⟩ := he
        exact pure_step h (y := a.eval y) (by simp [execOp, hop, hv, asBool]) (h.eval y) hK
      · cases he
    | alloc e => exact alloc_op h hid hop he hc hK
    | box e x => exact box_op h hid hop he hc hK
    | buildSlice t len parts => exact buildSlice_op h hid hop he hc hK
    | makeSlice t l q => exact makeSlice_op h hid hop he hc hK
    | load ty x =>
      simp only [opEff] at he
      split at he
      · rename_i hx; exact load_op h hop hx he hc hK
      · cases he
      · cases he
    | store ty x y =>
      simp only [opEff] at he
      split at he
      · rename_i hx hy; exact storeA_op h hop hx hy he hc hK
      · cases he
    | indexAddr ty x i => exact indexAddr_op h hop he hc hK
    | fieldAddr ty x f => exact fieldAddr_op h hop he hc hK
    | slice ty x lo hi mx => exact slice_op h hop he hc hK
    | sliceToArrayPointer ty x => exact sliceToArray_op h hop he hc hK
    | nilCheck x =>
      simp only [opEff] at he
      split at he
      · rename_i k off hx
        have hv := h.eval x
        rw [hx] at hv
        obtain ⟨hl, hv⟩ := hv
        simp only [Eff.ok.injEq] at he
        obtain ⟨_, rfl⟩ := he
        exact pure_step (r := .o (.p k off)) h (y := .pointer (some ((ρ k).a.add off))) (by simp [execOp, hop, hv]) ⟨hl, rfl⟩ hK
      · cases he
    | extract x i => exact extract_op h hop he hc hK
    | build t parts =>
      simp only [opEff] at he
      split at he <;> cases he
    | binOp bop ty x y ty' =>
      simp only [opEff, binOn] at he
      split at he
      · rename_i hx hy; exact binOp_op h hop hx hy (by intro c u; simp) he hc hK
      · rcases nilEff_no he with h0 | ⟨_, h0⟩ <;> cases h0
      · rcases nilEff_no he with h0 | ⟨_, h0⟩ <;> cases h0
      · cases he
    | unOp uop ty x => exact unOp_op h hop he hK
    | convert src dst x => exact convert_op h hop he hK
    | makeFunc fn first cap =>
      simp only [opEff] at he
      exact makeFunc_op h hop he hK
    | call cl =>
      cases hcal : cl.callee with
      | builtin b =>
        cases b with
        | len => exact len_op h hop hcal he hK
        | append => exact append_op h hid hop hcal he hc hK
        | _ => simp only [opEff, hcal] at he; cases he
      | value f =>
        cases f <;> simp only [opEff, hcal] at he <;> first | (cases he; done) | (split at he <;> cases he)
      | invoke r m => simp only [opEff, hcal] at he; cases he
    | _ => simp only [opEff] at he; cases he
  · rename_i S he
    obtain ⟨z, hz, rfl⟩ := hok
    rw [ex_spec he] at hz
    exact pureOp_step h hop hz hK
  · rename_i f args he
    obtain ⟨c, rfl, hcal, rfl⟩ := call_spec he
    exact call_op h hid hop hcal hok hK
  · rename_i f args he
    obtain ⟨c, i, ks, rfl, hcal, hT, rfl⟩ := clo_spec he
    exact clo_op h hid hop hcal hT hok hK
  · exact hok.elim
  · obtain ⟨z, hz, rfl⟩ := hok
    exact pure_step (r := .o (.v z)) h (hz o a.eval w hop (fun _ _ _ hy => h.evv hy) (fun _ => rfl) (fun k r F hk => h.mem.fct k r F hk w (h.below.mono fun b hb => .inl hb))) rfl hK
end
end Go.Sx
