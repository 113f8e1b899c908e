/-
  A small verified machine for walking Go functions whose data are values: memory is told by entries (boxes, rows, views), slots by abstract values.
  This text: the notions, and what one operation does. No conditions.
-/
import Derived.WalkKit
namespace Go.Sx

/-- What a slot may hold: a plain value; a pointer to cell 'off' of entry k; a slice over entry k from cell 'off' on; the slice that entry k (a row) is; anything. -/
inductive A0 where
  | v (x : Value)
  | p (k off : Nat)
  | s (k off len : Nat)
  | r (k n : Nat)
  | any
inductive AV where
  | o (a : A0)
  | t (l : List A0)
/-- What is known of a piece of memory. -/
inductive Ent where
  | box (cs : List Value)
  | row (e size n : Nat) (xs : List Value)
  | view (fr : Bool) (xs : List Value)
  | dead
structure Loc where
  a : Addr
  v : Value

abbrev MemF := Nat → Option Ent

def Ent.cells : Ent → Option (List Value)
  | .box cs => some cs
  | .row _ _ _ xs => some xs
  | .view _ xs => some xs
  | .dead => none
def Ent.own : Ent → Bool
  | .box _ => true
  | .row .. => true
  | _ => false
/-- It lies in a block of its own, of the call's making. -/
def Ent.fresh : Ent → Bool
  | .box _ => true
  | .row .. => true
  | .view fr _ => fr
  | .dead => false
theorem own_fresh {e : Ent} (h : e.own = true) : e.fresh = true := by cases e <;> first | rfl | simp [Ent.own] at h
def Ent.blk (l : Loc) : Ent → Option Nat
  | .box _ => some l.a.block
  | .row .. => l.v.ownBlock
  | .view _ xs => if xs.isEmpty then none else some l.a.block
  | .dead => none

def Den0 (ρ : Nat → Loc) (M : MemF) : A0 → Value → Prop
  | .v x, y => y = x
  | .p k off, y => (M k).isSome = true ∧ y = .pointer (some ((ρ k).a.add off))
  | .s k off len, y => (M k).isSome = true ∧ ∃ o cap, y = .slice o len cap ∧ len ≤ cap ∧ (len = 0 ∨ o = some ((ρ k).a.add off)) ∧ (o = none → cap = 0)
  | .r k n, y => (M k).isSome = true ∧ y = (ρ k).v ∧ ∃ o cap, y = .slice o n cap ∧ n ≤ cap ∧ (n = 0 ∨ o = some (ρ k).a) ∧ (o = none → cap = 0)
  | .any, _ => True
def DenL (ρ : Nat → Loc) (M : MemF) : List A0 → List Value → Prop
  | [], [] => True
  | a :: l, y :: ys => Den0 ρ M a y ∧ DenL ρ M l ys
  | _, _ => False
def Den (ρ : Nat → Loc) (M : MemF) : AV → Value → Prop
  | .o a, y => Den0 ρ M a y
  | .t l, y => ∃ ys, y = .tuple ys.toArray ∧ DenL ρ M l ys

def EntSat (B : Nat) (l : Loc) (w : World) : Ent → Prop
  | .box cs => ∃ b ty, l.a = ⟨b, 0, none⟩ ∧ B ≤ b ∧ w.heap[b]? = some (.cells cs.toArray ty (0, 0)) ∧ ∀ u ∈ cs, u.oneCell' = true
  | .row e size n xs => w.ownsRow B e size l.v n xs ∧ (∀ g m c, l.v = .slice (some g) m c → l.a = g) ∧ ∀ u ∈ xs, u.oneCell' = true
  | .view fr xs => (∀ j u, xs[j]? = some u → w.cell? (l.a.add j) = some u) ∧ (∀ u ∈ xs, u.oneCell' = true) ∧ (fr = true → xs.isEmpty = false → B ≤ l.a.block)
  | .dead => True

structure SatM (B : Nat) (ρ : Nat → Loc) (M : MemF) (w : World) : Prop where
  ent : ∀ k e, M k = some e → EntSat B (ρ k) w e
  apart : ∀ k e k' e', M k = some e → e.fresh = true → M k' = some e' → k ≠ k' → e.blk (ρ k) = none ∨ e.blk (ρ k) ≠ e'.blk (ρ k')

/-- What a step may change: the blocks of bs, and new ones. -/
structure Fr (w w' : World) (bs : Nat → Prop) : Prop where
  os : w'.os = w.os
  tape : w'.tape = w.tape
  output : w'.output = w.output
  size : w.heap.size ≤ w'.heap.size
  block : ∀ k, k < w.heap.size → ¬ bs k → w'.heap[k]? = w.heap[k]?

theorem Fr.refl (w : World) (bs) : Fr w w bs := ⟨rfl, rfl, rfl, Nat.le_refl _, fun _ _ _ => rfl⟩
theorem Fr.mono {w w' : World} {bs bs' : Nat → Prop} (h : Fr w w' bs) (hb : ∀ k, bs k → bs' k) : Fr w w' bs' :=
  ⟨h.os, h.tape, h.output, h.size, fun k hk hn => h.block k hk (fun x => hn (hb k x))⟩
theorem Fr.alloc (w : World) (o : Obj) (bs) : Fr w (w.alloc o) bs := ⟨rfl, rfl, rfl, by simp, fun k hk _ => RowKit.Below.heap_alloc w o k hk⟩
theorem Fr.setRow (w : World) (g : Nat) (cs : Array Value) : Fr w (w.setRow g cs) (· = g) :=
  ⟨rfl, rfl, rfl, by simp, fun k _ hn => setRow_other w g k cs hn⟩
theorem Fr.of_grown {w w' : World} {row : Option Nat} (h : w.grownBy w' row) : Fr w w' (fun k => row = some k) :=
  ⟨h.os, h.tape, h.output, h.size, fun k hk hn => h.block k hk (fun e => hn e.symm)⟩
theorem Fr.below {w0 w w' : World} {bs} (h : RowKit.Below w0.heap.size w0 w) (f : Fr w w' bs) (hb : ∀ k, bs k → w0.heap.size ≤ k) : RowKit.Below w0.heap.size w0 w' :=
  ⟨f.os.trans h.os, f.tape.trans h.tape, f.output.trans h.output, Nat.le_trans h.size f.size,
   fun k hk => (f.block k (Nat.lt_of_lt_of_le hk h.size) (fun x => by have := hb k x; omega)).trans (h.block k hk)⟩

theorem EntSat.lt {B l w e b} (h : EntSat B l w e) (hb : e.blk l = some b) : b < w.heap.size := by
  cases e with
  | box cs =>
    obtain ⟨b', ty, ha, _, hh, _⟩ := h
    simp only [Ent.blk, ha, Option.some.injEq] at hb
    subst hb
    exact (Array.getElem?_eq_some_iff.1 hh).1
  | row e size n xs => exact (h.1.lt b hb).2
  | view fr xs =>
    simp only [Ent.blk] at hb
    split at hb
    · simp at hb
    · rename_i hne
      simp only [Option.some.injEq] at hb
      cases xs with
      | nil => simp at hne
      | cons x xs =>
        have := World.block_lt_of_cell? w _ (h.1 0 x rfl)
        simp [Addr.add] at this
        omega
  | dead => simp [Ent.blk] at hb

theorem EntSat.ge {B l w e b} (h : EntSat B l w e) (ho : e.own = true) (hb : e.blk l = some b) : B ≤ b := by
  cases e with
  | box cs =>
    obtain ⟨b', ty, ha, hB, _⟩ := h
    simp only [Ent.blk, ha, Option.some.injEq] at hb
    omega
  | row e size n xs => exact (h.1.lt b hb).1
  | view fr xs => simp [Ent.own] at ho
  | dead => simp [Ent.own] at ho

theorem addr_add_block (a : Addr) (n : Nat) : (a.add n).block = a.block := by unfold Addr.add; split <;> rfl
theorem addr_add_add (a : Addr) (m n : Nat) : (a.add m).add n = a.add (m + n) := by
  unfold Addr.add
  by_cases hm : m = 0
  · subst hm; simp
  · by_cases hn : n = 0
    · subst hn; simp [hm]
    · simp [hm, hn, Nat.add_assoc]

theorem EntSat.frame {B l w w' e bs} (h : EntSat B l w e) (f : Fr w w' bs) (hb : ∀ b, e.blk l = some b → ¬ bs b) : EntSat B l w' e := by
  cases e with
  | box cs =>
    obtain ⟨b, ty, ha, hB, hh, h1⟩ := h
    refine ⟨b, ty, ha, hB, ?_, h1⟩
    rw [f.block b (Array.getElem?_eq_some_iff.1 hh).1 (hb b (by simp [Ent.blk, ha]))]
    exact hh
  | row e size n xs =>
    obtain ⟨⟨hl, hr⟩, h2, h3⟩ := h
    refine ⟨⟨hl, ?_⟩, h2, h3⟩
    rcases hr with hn | ⟨g, cap, cur, hv, hg, hh, rest⟩
    · exact .inl hn
    · refine .inr ⟨g, cap, cur, hv, hg, ?_, rest⟩
      rw [f.block g (Array.getElem?_eq_some_iff.1 hh).1 (hb g (by simp [Ent.blk, hv, Value.ownBlock]))]
      exact hh
  | view fr xs =>
    obtain ⟨h1, h2, h3⟩ := h
    refine ⟨fun j u hu => ?_, h2, h3⟩
    have hc := h1 j u hu
    rw [World.cell?_of_block (w := w) ?_]
    · exact hc
    · refine f.block _ (World.block_lt_of_cell? w _ hc) ?_
      rw [addr_add_block]
      refine hb _ ?_
      cases xs with
      | nil => simp at hu
      | cons x xs => simp [Ent.blk]
  | dead => trivial

/-- An entry reads. -/
theorem EntSat.reads {B l w e cs} (h : EntSat B l w e) (hc : e.cells = some cs) (hne : cs ≠ [] ) : ∀ j u, cs[j]? = some u → w.cell? (l.a.add j) = some u := by
  intro j u hu
  cases e with
  | box cs' =>
    simp only [Ent.cells, Option.some.injEq] at hc
    subst hc
    obtain ⟨b, ty, ha, _, hh, _⟩ := h
    rw [ha, Addr.add_lit, cell_of_row w b _ _ ty (0, 0) hh]
    simpa using hu
  | row e size n xs =>
    simp only [Ent.cells, Option.some.injEq] at hc
    subst hc
    obtain ⟨h1, h2, _⟩ := h
    rcases h1.2 with ⟨hv, hn⟩ | ⟨g, cap, cur, hv, _⟩
    · subst hn
      have hl := h1.1
      simp at hl
      exact absurd hl hne
    · rw [h2 _ _ _ hv]
      exact h1.cells (g := g) (by simp [hv, Value.ownBlock]) j u hu
  | view fr xs =>
    simp only [Ent.cells, Option.some.injEq] at hc
    subst hc
    exact h.1 j u hu
  | dead => simp [Ent.cells] at hc

theorem EntSat.one {B l w e cs} (h : EntSat B l w e) (hc : e.cells = some cs) : ∀ u ∈ cs, u.oneCell' = true := by
  cases e with
  | box cs' => simp only [Ent.cells, Option.some.injEq] at hc; subst hc; obtain ⟨_, _, _, _, _, h1⟩ := h; exact h1
  | row e size n xs => simp only [Ent.cells, Option.some.injEq] at hc; subst hc; exact h.2.2
  | view fr xs => simp only [Ent.cells, Option.some.injEq] at hc; subst hc; exact h.2.1
  | dead => simp [Ent.cells] at hc

/-- What an operation leaves: its value, new entries, entries that are other than before. -/
abbrev Mem := List (Nat × Ent)
def Mem.get : Mem → Nat → Option Ent
  | [], _ => none
  | (j, e) :: m, k => if k = j then some e else Mem.get m k
structure Upd where
  r : AV
  cr : Mem
  wr : Mem
def applyM (M : MemF) (u : Upd) : MemF := fun k =>
  match u.cr.get k with
  | some e => some e
  | none => match M k with
    | none => none
    | some e0 => match u.wr.get k with
      | some e => some e
      | none => some e0

theorem applyM_nil (M : MemF) (r : AV) : applyM M ⟨r, [], []⟩ = M := by
  funext k
  simp only [applyM, Mem.get]
  cases M k <;> rfl

theorem live_applyM {M : MemF} {u : Upd} {k : Nat} (h : (M k).isSome = true) : (applyM M u k).isSome = true := by
  unfold applyM
  cases u.cr.get k with
  | some e => rfl
  | none =>
    cases hk : M k with
    | none => simp [hk] at h
    | some e0 => simp only; cases u.wr.get k <;> rfl

/-- k is none of the four numbers from id on. -/
def Out (id k : Nat) : Prop := k < id ∨ id + 4 ≤ k
theorem Out.ne {id k : Nat} (h : Out id k) : k ≠ id := by unfold Out at h; omega

theorem Den0.mono {ρ ρ' : Nat → Loc} {M M' : MemF} {a : A0} {y : Value} (h : Den0 ρ M a y) (hM : ∀ k, (M k).isSome = true → (M' k).isSome = true ∧ ρ' k = ρ k) : Den0 ρ' M' a y := by
  cases a with
  | v x => exact h
  | p k off => exact ⟨(hM k h.1).1, by rw [(hM k h.1).2]; exact h.2⟩
  | s k off len => exact ⟨(hM k h.1).1, by rw [(hM k h.1).2]; exact h.2⟩
  | r k n => exact ⟨(hM k h.1).1, by rw [(hM k h.1).2]; exact h.2⟩
  | any => trivial
theorem DenL.mono {ρ ρ' : Nat → Loc} {M M' : MemF} (hM : ∀ k, (M k).isSome = true → (M' k).isSome = true ∧ ρ' k = ρ k) : ∀ {l : List A0} {ys : List Value}, DenL ρ M l ys → DenL ρ' M' l ys
  | [], [], _ => trivial
  | _ :: _, _ :: _, h => ⟨h.1.mono hM, DenL.mono hM h.2⟩
theorem Den.mono {ρ ρ' : Nat → Loc} {M M' : MemF} {a : AV} {y : Value} (h : Den ρ M a y) (hM : ∀ k, (M k).isSome = true → (M' k).isSome = true ∧ ρ' k = ρ k) : Den ρ' M' a y := by
  cases a with
  | o a => exact Den0.mono h hM
  | t l => obtain ⟨ys, hy, hl⟩ := h; exact ⟨ys, hy, DenL.mono hM hl⟩

/-! ### Contracts -/
inductive Arg where
  | val (x : Value)
  | sl (n size : Nat) (xs : List Value)
  | mv (e size n : Nat) (xs : List Value)
inductive Res where
  | val (x : Value)
  | row (e size n : Nat) (xs : List Value)
  | view (n size : Nat) (xs : List Value)

def ReadsSlice (w : World) (y : Value) (n size : Nat) (xs : List Value) : Prop :=
  ∃ o cap, y = .slice o n cap ∧ n ≤ cap ∧ xs.length = n * size ∧ (o = none → cap = 0) ∧ (∀ u ∈ xs, u.oneCell' = true) ∧
    (xs ≠ [] → ∃ a, o = some a ∧ ∀ j u, xs[j]? = some u → w.cell? (a.add j) = some u)
def ArgOK (w : World) : Arg → Value → Prop
  | .val x, y => y = x
  | .sl n size xs, y => ReadsSlice w y n size xs
  | .mv e size n xs, y => w.ownsRow 0 e size y n xs ∧ ∀ u ∈ xs, u.oneCell' = true
def ArgsOK (w : World) : List Arg → List Value → Prop
  | [], [] => True
  | a :: l, y :: ys => ArgOK w a y ∧ ArgsOK w l ys
  | _, _ => False
def movedBlk : Arg → Value → Option Nat
  | .mv .., y => y.ownBlock
  | _, _ => none
def moved : List Arg → List Value → Nat → Prop
  | a :: l, y :: ys, b => movedBlk a y = some b ∨ moved l ys b
  | _, _, _ => False
/-- The moved rows are apart from each other and from what the other arguments read. -/
def readBlk : Arg → Value → Option Nat
  | .val _, _ => none
  | .sl _ _ xs, y => if xs.isEmpty then none else y.ownBlock
  | .mv .., y => y.ownBlock
def apartArgs : List Arg → List Value → Prop
  | a :: l, y :: ys => (∀ b, movedBlk a y = some b → ∀ a' y', (a', y') ∈ l.zip ys → readBlk a' y' ≠ some b) ∧
      (∀ b, readBlk a y = some b → ∀ a' y', (a', y') ∈ l.zip ys → movedBlk a' y' ≠ some b) ∧ apartArgs l ys
  | _, _ => True
def ResOK (w' : World) (new : Nat → Prop) : Res → Value → Prop
  | .val x, z => z = x
  | .row e size n xs, z => w'.ownsRow 0 e size z n xs ∧ (∀ u ∈ xs, u.oneCell' = true) ∧ ∀ b, z.ownBlock = some b → new b
  | .view n size xs, z => ReadsSlice w' z n size xs ∧ ∀ b, xs.isEmpty = false → z.ownBlock = some b → new b
def ResBlk : Res → Value → Option Nat
  | .val _, _ => none
  | .row .., z => z.ownBlock
  | .view _ _ xs, z => if xs.isEmpty then none else z.ownBlock
def RessOK (w' : World) (new : Nat → Prop) : List Res → List Value → Prop
  | [], [] => True
  | a :: l, y :: ys => ResOK w' new a y ∧ RessOK w' new l ys ∧ (∀ b, ResBlk a y = some b → ∀ a' y', (a', y') ∈ l.zip ys → ResBlk a' y' ≠ some b)
  | _, _ => False
def pack : List Value → Value
  | [z] => z
  | zs => .tuple zs.toArray

/-- What a function does, told by values and lists alone. -/
def callable (P : Program) (f : Nat) : Prop := ∀ (args : Array Value) (w : World), (callFunc f args).run P w = .ok (.enter f args) w
def Contract1 (P : Program) (f : Nat) (as : List Arg) (rs : List Res) : Prop :=
  callable P f ∧ ∀ (w : World) (ys : List Value), ArgsOK w as ys → apartArgs as ys →
    Calls P f ys.toArray w fun e w' => ∃ zs, e = .returned (pack zs) ∧ Fr w w' (moved as ys) ∧
      RessOK w' (fun b => w.heap.size ≤ b ∨ moved as ys b) rs zs

/-- A function without a body in Go, of which the model tells the value. -/
def Contract2 (P : Program) (f : Nat) (as : List Arg) (rs : List Res) : Prop :=
  ∃ xs zs : List Value, as = xs.map Arg.val ∧ rs = zs.map Res.val ∧ ∀ w, (callFunc f xs.toArray).run P w = .ok (.value (pack zs)) w
def Contract (P : Program) (f : Nat) (as : List Arg) (rs : List Res) : Prop := Contract1 P f as rs ∨ Contract2 P f as rs

theorem callable_of {P : Program} {f : Nat} {fn : Func} (hf : P.funcs[f]? = some fn) (hb : fn.body.isNone = false) (hn : (fn.name == "runtime.NumGoroutine") = false) : callable P f := by
  intro args w
  simp only [callFunc, Sem.run_bind, run_program, Result.andThen_ok, hf, hn, hb]
  rfl

end Go.Sx
