/-
  The machine's code: what is to be shown of a piece of code from an abstract state (vcs), and what that means (SV). The machine: a region that draws its order comes to the same state in whatever order, where the static look (orderOK) lets it by. The machine: what an operation does hangs on its operands and on the entries that these name; a region in any order; code. The machine: a region in any order, and code as a whole (vcs_sound). The machine: code as a whole (vcs_sound), loops, and contracts out of code. The machine: loops, and contracts out of code. The machine: contracts out of code. The machine: contracts out of code. No conditions.
-/
import Derived.Test.YtgeliidjmefkgaaZMachA
import Derived.OrdersIn
import Derived.WalkSpells
import Derived.Deep.LoopGhost
import Derived.Sort.LoopGhostIn
import Derived.LoopNIn
import Derived.RangeFuncRecord
namespace Go.Sx

structure St where
  t : List AV
  m : Mem
  n : Nat

def St.T (st : St) : Nat → AV := fun i => st.t.getD i (.o .any)
def updm : Mem → Mem → Mem
  | [], m => m
  | x :: ws, m => m.map fun y => (y.1, ((Mem.get (x :: ws) y.1).getD y.2))
def setd (t : List AV) : Option Nat → AV → List AV
  | some d, r => t.set d r
  | none, _ => t
def St.put (st : St) (d : Option Nat) (u : Upd) : St := ⟨setd st.t d u.r, u.cr ++ updm u.wr st.m, st.n + 4⟩
def St.see (st : St) (d : Nat) (b : Bool) : St := ⟨st.t.set d (.o (.v (.bool b))), st.m, st.n⟩

/-- How a region is gone through: in the text's order, calls of all kinds let in; in any order; in the text's order, but shown fit for any. -/
inductive Md where
  | plain
  | draw
  | strict
  | only (f : Nat)
  | apart (ds : List (Nat × Nat))
inductive Frm where
  | code (c : Code)
  | block (id : Nat)
  | ops (md : Md) (all rest : List Oper)
  | stop (K : St → Prop)

/-- The fences of these walks: every function, any depth; in a round or in none. -/
def FW (r : Option Nat) : Fence := { Fence.wide with round := r }
def markD (D : Nat) : Deferred := { target := .collected D, args := #[] }
/-- A base of a later time: blocks for deferred calls were laid. -/
structure Ext (g w0 : Base) : Prop where
  below : Fr g.w w0.w g.own
  own : ∀ b, w0.own b → g.own b
  sv : w0.sv = g.sv
  hid : w0.hid = g.hid
  df : ∃ Ds : List Nat, w0.df = Ds.map markD ++ g.df ∧ Ds.Nodup ∧ ∀ D ∈ Ds, D < w0.w.heap.size ∧ ¬ w0.own D ∧ g.own D ∧ w0.w.heap[D]? = some (.deferred (some []))
theorem Ext.refl (g : Base) : Ext g g := ⟨Fr.refl _ _, fun _ h => h, rfl, rfl, [], rfl, List.nodup_nil, fun _ h => by cases h⟩
def SatI (w0 : Base) (ρ : Nat → Loc) (st : St) (a : Act) (w : World) : Prop := SatS w0 ρ st.T st.m.get st.t.length a w ∧ ∀ j, (st.m.get j).isSome = true → j < st.n
def SatN (g : Base) (ρ : Nat → Loc) (st : St) (a : Act) (w : World) : Prop := ∃ w0, Ext g w0 ∧ SatI w0 ρ st a w

theorem oper_in {P : Program} {o : Oper} {a : Act} {w : World} {K : Act → World → Prop} {Q : Exit → Act → World → Prop} (r : Option Nat) (hd : ∀ c, o.op ≠ .defer c) (h : o.wp P a w K Q) : o.wpIn (FW r) 0 P a w K Q := by
  refine ⟨fun _ _ => trivial, ?_⟩
  rw [Oper.semAt_eq (FW r).round a.eval o hd]
  unfold Oper.wp at h
  revert h
  generalize (execOp a.eval o).run P w = res
  cases res with
  | ok x w' =>
    cases x with
    | value v => exact fun h => h
    | skip => exact fun h => h
    | defer d => exact fun h => h
    | enter f args =>
      intro h
      refine ⟨fun h => by simp [FW, Fence.wide] at h, ?_⟩
      have h1 : CallsIn Fence.wide (0 - 1) P f args w' _ := callsIn_wide.2 h
      exact CallsIn.mono (show CallsIn (FW r) (0 - 1) P f args w' _ from h1) (fun e w'' he => by cases e <;> exact he)
    | row row args =>
      intro h
      refine ⟨fun h => by simp [FW, Fence.wide] at h, fun c cs _ => ?_⟩
      obtain ⟨v, w2, h1, h2⟩ := h c cs
      exact ⟨v, w2, h1, (stepsIn_wide (P := P)).2 h2⟩
    | _ => exact fun h => h.elim
  | halt x w' => cases x <;> first | exact fun h => h | exact fun h => h.elim

/-- An operation that is told by its own walk: from every state that st tells of, it comes to one of which ks holds. -/
def RawOp (P : Program) (st : St) (op : Op) (d : Option Nat) (ks : St → Prop) : Prop :=
  ∀ (o : Oper), o.op = op → o.dst = d → ∀ (r : Option Nat) (g : Base) (ρ : Nat → Loc) (a : Act) (w : World) (K : Act → World → Prop) (Q : Exit → Act → World → Prop), SatN g ρ st a w →
    (∀ ρ' st' a' w', SatN g ρ' st' a' w' → ks st' → K a' w') → o.wpIn (FW r) 0 P a w K Q

def gslot (all : List Oper) (j : Nat) : Option Nat := (all[j]?).bind (·.dst)

/-! the static look at a region that draws its order -/
def maskOf (acc : List Nat) (o : Oper) : Nat := o.after.toList.foldl (fun s e => if Region.binds .any e then s ||| 2 ^ e.on ||| acc.getD e.on 0 else s) 0
def masks : List Oper → List Nat → List Nat
  | [], acc => acc
  | o :: l, acc => masks l (acc ++ [maskOf acc o])
def isFn (f : Nat) : Operand → Nat
  | .func g => (Nat.beq f g).toNat
  | _ => 0
/-- Whether a call may take rows: never, always, or that of one function alone. -/
def mvN : Md → Operand → Nat
  | .draw, _ => 0
  | .apart _, _ => 0
  | .only f, x => isFn f x
  | _, _ => 1
/-- What an operation does to memory; where it says so (sb) a call may take rows. -/
def cls (sb : Md) : Op → Nat
  | .load .. => 1
  | .alloc _ => 1
  | .box .. => 1
  | .buildSlice .. => 1
  | .makeSlice .. => 1
  | .store .. => 2
  | .call c => match c.callee with
    | .builtin .append => 3
    | .value x => 1 + mvN sb x
    | _ => 0
  | _ => 0
/-- Who writes a slot of the region. -/
def dstOp (all : List Oper) (x : Nat) : Option Oper := all.find? fun o => o.dst == some x
/-- A pointer that comes from ahead of the region. -/
def oldSlot (all : List Oper) : Nat → Nat → Bool
  | 0, _ => false
  | f + 1, x => match dstOp all x with
    | none => true
    | some o => match o.op with
      | .fieldAddr _ (.tmp y) _ => oldSlot all f y
      | _ => false
def oldLoad (all : List Oper) : Op → Bool
  | .load _ (.tmp x) => oldSlot all 8 x
  | _ => false
def isAlloc : Op → Bool
  | .alloc _ => true
  | _ => false
def isBuild : Op → Bool
  | .buildSlice .. => true
  | _ => false
/-- A store into a box that the region lays; an append to a row that it lays. -/
def freshStore (all : List Oper) (o : Oper) : Bool := match o.op with
  | .store _ (.tmp d) _ => o.after.toList.any fun e => Region.binds .any e && (match all[e.on]? with | some a => a.dst == some d && isAlloc a.op | none => false)
  | .call c => (match c.callee, c.args.toList with
    | .builtin .append, .tmp d :: _ => o.after.toList.any fun e => Region.binds .any e && (match all[e.on]? with | some a => a.dst == some d && isBuild a.op | none => false)
    | _, _ => false)
  | _ => false
/-- Pointers from ahead of the region that are said to name different entries. -/
def dsOf : Md → List (Nat × Nat)
  | .apart ds => ds
  | _ => []
/-- The pointer that a load or a store goes through. -/
def ptrOf : Op → Option Nat
  | .load _ (.tmp x) => some x
  | .store _ (.tmp x) _ => some x
  | _ => none
/-- Loads and stores through such pointers. -/
def apX (all : List Oper) (ds : List (Nat × Nat)) (i j : Oper) : Bool := match ptrOf i.op, ptrOf j.op with
  | some x, some y => (dstOp all x).isNone && (dstOp all y).isNone && ds.any fun p => Nat.beq p.1 x && Nat.beq p.2 y
  | _, _ => false
/-- They do. -/
def apS (T : Nat → AV) (ds : List (Nat × Nat)) : Bool := ds.all fun p => match T p.1, T p.2 with
  | .o (.p k _), .o (.p k' _) => !(Nat.beq k k')
  | _, _ => false
def exc (sb : Md) (all : List Oper) (i j : Oper) : Bool := (freshStore all i && oldLoad all j.op) || (oldLoad all i.op && freshStore all j) || apX all (dsOf sb) i j || apX all (dsOf sb) j i
def pairOK (sb : Md) (all : List Oper) (bef : Bool) (i j : Oper) : Bool :=
  (bef || !((decide (2 ≤ cls sb i.op) && decide (1 ≤ cls sb j.op)) || (decide (1 ≤ cls sb i.op) && decide (2 ≤ cls sb j.op))) || exc sb all i j) &&
  (match i.dst with
   | some d => i.dst != j.dst && (bef || !(j.looksAt all.toArray).contains d)
   | none => true) &&
  (match j.dst with
   | some d => bef || !(i.looksAt all.toArray).contains d
   | none => true)
def oneOK (sb : Md) (j : Nat) (o : Oper) (mask : Nat) : Bool :=
  true && (match o.op with | .select .. => false | _ => true) && (o.after.toList.all fun e => !(Region.binds .any e) || decide (e.on < j)) &&
  (match o.guard with
   | some (g, _) => decide (g < j) && mask.testBit g
   | none => true)
def orderOK (sb : Md) (all : List Oper) : Bool :=
  (List.range all.length).all fun j => match all[j]? with
    | none => false
    | some oj => oneOK sb j oj ((masks all []).getD j 0) && (List.range j).all fun i => match all[i]? with
      | none => false
      | some oi => pairOK sb all (((masks all []).getD j 0).testBit i) oi oj

section
variable (P : Program) (Q : St → Prop)

def opVC (md : Md) (st : St) (op : Op) (d : Option Nat) (k : Upd → Prop) (ks : St → Prop) : Prop :=
  match opEff P st.T st.m.get st.n op with
  | .fail => False
  | .ok c u => c ∧ k u
  | .ex S => ∃ z, S z ∧ k (val z)
  | .call f args => (∃ as rs, Contract P f as rs ∧ argsMatch st.m.get args as ∧ rs.length ≤ 4 ∧ apartIds args as ∧ (cls md op = 1 → movedE args as = []) ∧
      k ⟨packA (ressA st.n rs), ressE st.n rs, movedE args as⟩) ∨ (md = .plain ∧ RawOp P st op d ks)
  | .clo f args => (∃ as rs, Contract P f as rs ∧ argsMatch st.m.get args as ∧ rs.length ≤ 4 ∧ apartIds args as ∧ (cls md op = 1 → movedE args as = []) ∧
      k ⟨packA (ressA st.n rs), ressE st.n rs, movedE args as⟩) ∨ (md = .plain ∧ RawOp P st op d ks)
  | .nd S => md = .plain ∧ ∀ b, S b → ks (st.put d (val (.bool b)))
  | .raw => (∃ z, factOp P st.T st.m.get op z ∧ k (val z)) ∨ (md = .plain ∧ RawOp P st op d ks)

/-- What is left of a stack after it was left by 'exit id'. -/
def pop : List Frm → Nat → Option (List Frm)
  | [], _ => none
  | .block j :: k, id => if id = j then some k else pop k id
  | _ :: k, id => pop k id

/-- Meaning: from every real state that st tells of, the stack can be run. -/
def SVX : List Frm → (St → Prop) × (Nat → St → Prop)
  | [] => (Q, fun _ _ => False)
  | .stop K :: k => (K, (SVX k).2)
  | .block j :: k => ((SVX k).1, fun id st => if id = j then (SVX k).1 st else (SVX k).2 id st)
  | .ops _ _ _ :: k => (fun _ => False, (SVX k).2)
  | .code c :: k => (fun st => ∀ r g ρ a w, SatN g ρ st a w →
      c.wpIn (FW r) 0 P (fun e a' w' => ∃ ρ' st', SatN g ρ' st' a' w' ∧
        match e with
        | .normal => (SVX k).1 st'
        | .exit id => (SVX k).2 id st'
        | .ret => Q st'
        | _ => False) a w, (SVX k).2)

def PostS (g : Base) (k : List Frm) (e : Exit) (a : Act) (w : World) : Prop :=
  ∃ ρ st, SatN g ρ st a w ∧ match e with
    | .normal => (SVX P Q k).1 st
    | .exit id => (SVX P Q k).2 id st
    | .ret => Q st
    | _ => False

/-- A piece of code, from st, with k behind it. -/
def CodeVC (c : Code) (k : List Frm) (st : St) : Prop := (SVX P Q (.code c :: k)).1 st
/-- The loop, from st, with k behind it. -/
def LoopVC (c : Code) (k : List Frm) (st : St) : Prop := (SVX P Q (.code (.loop c) :: k)).1 st

def vcs : Nat → List Frm → St → Prop
  | 0, _, _ => False
  | _ + 1, [], st => Q st
  | _ + 1, .stop K :: _, st => K st
  | n + 1, .block _ :: k, st => vcs n k st
  | n + 1, .ops _ _ [] :: k, st => vcs n k st
  | n + 1, .ops dr all (⟨d, op, _, _, _, g⟩ :: rest) :: k, st => match g with
    | none => opVC P dr st op d (fun u => vcs n (.ops dr all rest :: k) (st.put d u)) fun st' => vcs n (.ops dr all rest :: k) st'
    | some (j, want) => match gslot all j with
      | none => False
      | some s => match st.T s with
        | .o (.v (.bool b)) => (b = want → opVC P dr (st.see s want) op d (fun u => vcs n (.ops dr all rest :: k) ((st.see s want).put d u)) fun st' => vcs n (.ops dr all rest :: k) st') ∧
            (b = !want → vcs n (.ops dr all rest :: k) ((st.see s (!want)).put d ⟨.o (.v undef), [], []⟩))
        | .o (.v y) => y = undef ∧ vcs n (.ops dr all rest :: k) (st.put d ⟨.o (.v undef), [], []⟩)
        | _ => False
  | n + 1, .code c :: k, st => match c with
    | .skip => vcs n k st
    | .region _ ops dr => match dr with
      | false => vcs n (.ops .plain ops.toList ops.toList :: k) st
      | true => (∃ md : Md, md ≠ .plain ∧ apS st.T (dsOf md) = true ∧ orderOK md ops.toList = true ∧ vcs n (.ops md ops.toList ops.toList :: k) st) ∨
          ∀ (j : Nat) (o : Array Oper), o.toList = ops.toList → CodeVC P Q (.region j o true) k st
    | .seq a b => vcs n (.code a :: .code b :: k) st
    | .cond c a b => match ev st.T c with
      | .o (.v (.bool t)) => (t = true → vcs n (.code a :: k) st) ∧ (t = false → vcs n (.code b :: k) st)
      | _ => False
    | .block id c => vcs n (.code c :: .block id :: k) st
    | .loop c => LoopVC P Q c k st
    | .rangeFunc g ps x y => CodeVC P Q (.rangeFunc g ps x y) k st
    | .exit id => match pop k id with
      | some k' => vcs n k' st
      | none => False
    | .ret => Q st
    | _ => False
end

section
variable {P : Program} {Q : St → Prop}

theorem pop_SVX : ∀ {k k' : List Frm} {id : Nat} {st : St}, pop k id = some k' → (SVX P Q k').1 st → (SVX P Q k).2 id st
  | [], _, _, _, h, _ => by simp [pop] at h
  | .block j :: k, k', id, st, h, hs => by
    simp only [pop] at h
    show if id = j then (SVX P Q k).1 st else (SVX P Q k).2 id st
    split at h
    · rename_i e; simp only [Option.some.injEq] at h; subst h; simp [e, hs]
    · rename_i e; simp only [e, if_false]; exact pop_SVX h hs
  | .stop K :: k, _, _, _, h, hs => pop_SVX (k := k) h hs
  | .ops _ _ _ :: k, _, _, _, h, hs => pop_SVX (k := k) h hs
  | .code _ :: k, _, _, _, h, hs => pop_SVX (k := k) h hs

theorem get_append (a b : Mem) (k : Nat) : Mem.get (a ++ b) k = match a.get k with | some e => some e | none => b.get k := by
  induction a with
  | nil => rfl
  | cons x a ih =>
    obtain ⟨j, e⟩ := x
    simp only [List.cons_append, Mem.get]
    split
    · rfl
    · exact ih
theorem get_updm (ws m : Mem) (k : Nat) : Mem.get (updm ws m) k = match m.get k with | none => none | some e0 => match ws.get k with | some e => some e | none => some e0 := by
  cases ws with
  | nil => simp only [updm, Mem.get]; cases m.get k <;> rfl
  | cons x ws =>
    simp only [updm]
    generalize x :: ws = wr
    induction m with
    | nil => rfl
    | cons y m ih =>
      obtain ⟨j, e⟩ := y
      simp only [List.map_cons, Mem.get]
      split
      · rename_i h; subst h; cases Mem.get wr k <;> rfl
      · exact ih
theorem get_put (st : St) (d : Option Nat) (u : Upd) : (st.put d u).m.get = applyM st.m.get u := by
  funext k
  simp only [St.put, get_append, get_updm, applyM]
  rfl

theorem put_tmps (a : Act) (d : Option Nat) (y : Value) (i : Nat) : (a.put d y).tmps.getD i undef = if d = some i ∧ i < a.tmps.size then y else a.tmps.getD i undef := by
  cases d with
  | none => simp [Act.put]
  | some d =>
    simp only [Act.put, Array.getD_eq_getD_getElem?, Array.getElem?_setIfInBounds, Option.some.injEq]
    by_cases h : d = i
    · subst h
      by_cases h2 : d < a.tmps.size <;> simp [h2]
    · simp [h]
theorem setd_getD (t : List AV) (d : Option Nat) (r : AV) (i : Nat) : (setd t d r).getD i (.o .any) = if d = some i ∧ i < t.length then r else t.getD i (.o .any) := by
  cases d with
  | none => simp [setd]
  | some d =>
    simp only [setd, List.getD_eq_getElem?_getD, List.getElem?_set, Option.some.injEq]
    by_cases h : d = i
    · subst h
      by_cases h2 : d < t.length <;> simp [h2]
    · simp [h]
theorem setd_length (t : List AV) (d : Option Nat) (r : AV) : (setd t d r).length = t.length := by cases d <;> simp [setd]

/-- One operation's outcome, put into the state. -/
theorem SatI.put {w0 : Base} {ρ : Nat → Loc} {st : St} {a : Act} {w : World} (h : SatI w0 ρ st a w) {d : Option Nat} {u : Upd} {y : Value} {w' : World} {ρ' : Nat → Loc}
    (hρ : ∀ k, k < st.n → ρ' k = ρ k) (hcr : ∀ k e, u.cr.get k = some e → k < st.n + 4) (hm : SatM w0 ρ' (applyM st.m.get u) w') (hb : Fr w0.w w' w0.own) (hd : Den ρ' (applyM st.m.get u) u.r y) :
    SatI w0 ρ' (st.put d u) (a.put d y) w' := by
  obtain ⟨h, hid⟩ := h
  refine ⟨⟨hb, by rw [get_put]; exact hm, fun i => ?_, ?_, ?_⟩, ?_⟩
  · rw [get_put, put_tmps]
    simp only [St.T, St.put, setd_getD]
    have hsz : a.tmps.size = st.t.length := h.size
    rw [hsz]
    split
    · exact hd
    · exact (h.slot i).mono fun k hk => ⟨live_applyM hk, hρ k (hid k hk)⟩
  · simp only [St.put, setd_length]
    rw [← h.size]
    cases d <;> simp [Act.put]
  · cases d <;> simp [Act.put, h.defers]
  · intro j hj
    rw [get_put] at hj
    simp only [St.put]
    unfold applyM at hj
    split at hj
    · rename_i e he; exact hcr j e he
    · split at hj
      · simp at hj
      · rename_i e0 he0; have := hid j (by simp [he0]); omega

theorem see_same {st : St} {s : Nat} {b : Bool} (h : st.T s = .o (.v (.bool b))) : st.see s b = st := by
  have hlt : s < st.t.length := by
    rcases Nat.lt_or_ge s st.t.length with h' | h'
    · exact h'
    · simp [St.T, List.getD_eq_getElem?_getD, List.getElem?_eq_none h'] at h
  unfold St.see
  have : st.t.set s (.o (.v (.bool b))) = st.t := by
    apply List.ext_getElem?
    intro i
    rw [List.getElem?_set]
    split
    · rename_i e; subst e
      simp only [St.T, List.getD_eq_getElem?_getD, List.getElem?_eq_getElem hlt, Option.getD_some] at h
      rw [List.getElem?_eq_getElem hlt, h]
    · rfl
  rw [this]

theorem ressE_ids {rs : List Res} {j k : Nat} {e : Ent} (h : (ressE j rs).get k = some e) : k < j + rs.length := by
  obtain ⟨h1, r, h2, _⟩ := ressE_get h
  have := (List.getElem?_eq_some_iff.1 h2).1
  omega
theorem opEff_ids {T : Nat → AV} {M : MemF} {id : Nat} {op : Op} {c : Prop} {u : Upd} (he : opEff P T M id op = .ok c u) : ∀ k e, u.cr.get k = some e → k = id := by
  have key : ∀ (x : Ent) k e, Mem.get [(id, x)] k = some e → k = id := by
    intro x k e h
    simp only [Mem.get] at h
    split at h
    · assumption
    · cases h
  have key0 : ∀ k e, Mem.get [] k = some e → k = id := by intro k e h; cases h
  have kbox : ∀ (q : A0), boxEff id q = .ok c u → ∀ k e, u.cr.get k = some e → k = id := by
    intro q hq
    cases q <;> simp only [boxEff, Eff.ok.injEq] at hq <;> first | (cases hq; done) | (obtain ⟨_, rfl⟩ := hq; exact key _)
  have kref : ∀ (ty k off q), storeRef P M ty k off q = .ok c u → ∀ k e, u.cr.get k = some e → k = id := by
    intro ty k off q hq
    unfold storeRef at hq
    (repeat' split at hq) <;> first | (cases hq; done) | (simp only [Eff.ok.injEq] at hq; obtain ⟨_, rfl⟩ := hq; exact key0)
  have ksto : ∀ (ty k off q), storeA P M ty k off q = .ok c u → ∀ k e, u.cr.get k = some e → k = id := by
    intro ty k off q hq
    cases q <;> simp only [storeA] at hq <;> first | exact kref _ _ _ _ hq | (cases hq; done) | skip
    unfold storeEff at hq
    (repeat' split at hq) <;> first | (cases hq; done) | (simp only [Eff.ok.injEq] at hq; obtain ⟨_, rfl⟩ := hq; exact key0)
  cases op <;> simp only [opEff, binOn] at he <;> try (repeat' split at he)
  all_goals first
    | (cases he; done)
    | (simp only [Eff.ok.injEq] at he; obtain ⟨_, rfl⟩ := he; first | exact key _ | exact key0)
    | exact kbox _ he
    | exact ksto _ _ _ _ he
    | ((unfold loadEff hdrLoad at he; repeat' split at he) <;> first | (cases he; done) | (simp only [Eff.ok.injEq] at he; obtain ⟨_, rfl⟩ := he; exact key0))
    | ((unfold fnEff at he; repeat' split at he) <;> first | (cases he; done) | (simp only [Eff.ok.injEq] at he; obtain ⟨_, rfl⟩ := he; exact key0))
    | ((unfold sliceEff at he; repeat' split at he) <;> first | (cases he; done) | (simp only [Eff.ok.injEq] at he; obtain ⟨_, rfl⟩ := he; exact key0))
    | (rcases nilEff_no he with h | ⟨_, h⟩ <;> cases h; done)
    | ((unfold binEff at he; repeat' split at he) <;> first | (cases he; done) | (simp only [Eff.ok.injEq] at he; obtain ⟨_, rfl⟩ := he; exact key0))

theorem opOK_ids {T : Nat → AV} {M : MemF} {id : Nat} {op : Op} {u : Upd} (h : OpOK P T M id op u) : ∀ k e, u.cr.get k = some e → id ≤ k ∧ k < id + 4 := by
  intro k e hk
  unfold OpOK at h
  split at h
  · exact h.elim
  · rename_i c u' he
    obtain ⟨_, rfl⟩ := h
    have := opEff_ids he k e hk
    omega
  · obtain ⟨z, _, rfl⟩ := h; simp [val, Mem.get] at hk
  · obtain ⟨as, rs, _, _, hle, _, rfl⟩ := h
    have h1 := (ressE_get hk).1
    have h2 := ressE_ids hk
    omega
  · obtain ⟨as, rs, _, _, hle, _, rfl⟩ := h
    have h1 := (ressE_get hk).1
    have h2 := ressE_ids hk
    omega
  · exact h.elim
  · obtain ⟨z, _, rfl⟩ := h; simp [val, Mem.get] at hk

/-- A slice against nil. -/
theorem nd_raw {st : St} {op : Op} {d : Option Nat} {S : Bool → Prop} {ks : St → Prop} (he : opEff P st.T st.m.get st.n op = .nd S) (h : ∀ b, S b → ks (st.put d (val (.bool b)))) : RawOp P st op d ks := by
  rintro o rfl rfl r g ρ a w K Q ⟨w0, hx, hs⟩ hK
  obtain ⟨bop, ty, x, y, ty', n, e, hop, hy, hxv, hu, hS⟩ := nd_spec he
  have hvy : a.eval y = .slice none 0 0 := hs.1.evv hy
  obtain ⟨o', cap, hvx, hle, hnil⟩ : ∃ o' cap, a.eval x = .slice o' n cap ∧ n ≤ cap ∧ (o' = none → cap = 0) := by
    have hv := hs.1.eval x
    rcases hxv with ⟨k, off, hx⟩ | ⟨k, hx⟩
    · rw [hx] at hv
      obtain ⟨_, o', cap, h1, h2, _, h3⟩ := hv
      exact ⟨o', cap, h1, h2, h3⟩
    · rw [hx] at hv
      obtain ⟨_, _, o', cap, h1, h2, _, h3⟩ := hv
      exact ⟨o', cap, h1, h2, h3⟩
  have fin : ∀ b, S b → (execOp a.eval o).run P w = .ok (.value (.bool b)) w → o.wpIn (FW r) 0 P a w K Q := by
    intro b hb hrun
    refine oper_in r (by rw [hop]; intro c h; cases h) ?_
    unfold Oper.wp
    rw [hrun, Oper.upon_value]
    refine hK ρ _ _ w ⟨w0, hx, hs.put (fun _ _ => rfl) (fun k e he => by cases he) (by rw [val, applyM_nil]; exact hs.1.mem) hs.1.below (by rw [val, applyM_nil]; exact rfl)⟩ (h b hb)
  rcases hS with ⟨rfl, rfl⟩ | ⟨rfl, rfl⟩
  · refine fin o'.isNone (fun hb => ?_) ?_
    · have := hnil (by simpa using hb)
      omega
    · have := Lib.run_eql_slice_nil (P := P) w ty e o' n cap 0 0 hu
      simp [execOp, hop, hvx, hvy, eqGuard, this]
  · refine fin (!o'.isNone) (fun hb => ?_) ?_
    · have := hnil (by simpa using hb)
      omega
    · have := run_neq_slice_nil_any (P := P) w ty e o' n cap 0 0 hu
      simp [execOp, hop, hvx, hvy, eqGuard, this]

theorem opVC_spec {md : Md} {st : St} {op : Op} {d : Option Nat} {k : Upd → Prop} {ks : St → Prop} (h : opVC P md st op d k ks) :
    (∃ u, OpOK P st.T st.m.get st.n op u ∧ k u ∧ (cls md op = 1 → u.wr = [])) ∨ (md = .plain ∧ RawOp P st op d ks) := by
  have hwr : ∀ c u, opEff P st.T st.m.get st.n op = .ok c u → cls md op = 1 → u.wr = [] := by
    intro c u he hc
    have kbox : ∀ (q : A0), boxEff st.n q = .ok c u → u.wr = [] := by
      intro q hq
      cases q <;> simp only [boxEff, Eff.ok.injEq] at hq <;> first | (cases hq; done) | (obtain ⟨_, rfl⟩ := hq; rfl)
    cases op <;> simp only [cls] at hc <;> try (cases hc; done)
    all_goals simp only [opEff] at he <;> try (repeat' split at he)
    all_goals first
      | (cases he; done)
      | (simp only [Eff.ok.injEq] at he; obtain ⟨_, rfl⟩ := he; rfl)
      | exact kbox _ he
      | ((unfold loadEff hdrLoad at he; repeat' split at he) <;> first | (cases he; done) | (simp only [Eff.ok.injEq] at he; obtain ⟨_, rfl⟩ := he; rfl))
      | (simp_all; done)
  unfold opVC at h
  split at h
  · exact h.elim
  · rename_i c u he; exact .inl ⟨u, by unfold OpOK; rw [he]; exact ⟨h.1, rfl⟩, h.2, hwr c u he⟩
  · rename_i S he; obtain ⟨z, h1, h2⟩ := h; exact .inl ⟨val z, by unfold OpOK; rw [he]; exact ⟨z, h1, rfl⟩, h2, fun _ => rfl⟩
  · rename_i f args he
    rcases h with ⟨as, rs, h1, h2, h3, h4, h5, h6⟩ | h
    · exact .inl ⟨_, by unfold OpOK; rw [he]; exact ⟨as, rs, h1, h2, h3, h4, rfl⟩, h6, h5⟩
    · exact .inr h
  · rename_i f args he
    rcases h with ⟨as, rs, h1, h2, h3, h4, h5, h6⟩ | h
    · exact .inl ⟨_, by unfold OpOK; rw [he]; exact ⟨as, rs, h1, h2, h3, h4, rfl⟩, h6, h5⟩
    · exact .inr h
  · rename_i S he
    exact .inr ⟨h.1, nd_raw he h.2⟩
  · rename_i he
    rcases h with ⟨z, h1, h2⟩ | h
    · exact .inl ⟨val z, by unfold OpOK; rw [he]; exact ⟨z, h1, rfl⟩, h2, fun _ => rfl⟩
    · exact .inr h
theorem opOK_nodefer {T : Nat → AV} {M : MemF} {id : Nat} {op : Op} {u : Upd} (h : OpOK P T M id op u) : ∀ c, op ≠ .defer c := by
  intro c e
  subst e
  unfold OpOK at h
  simp only [opEff] at h

/-- An operation of a region that keeps the text's order, or any other, may run. -/
def runs (all : List Oper) (st : St) (o : Oper) : Prop := o.guard = none ∨ ∃ j want s, o.guard = some (j, want) ∧ gslot all j = some s ∧ st.T s = .o (.v (.bool want))
def skips (all : List Oper) (st : St) (o : Oper) : Prop := ∃ j want s, o.guard = some (j, want) ∧ gslot all j = some s ∧ (st.T s = .o (.v (.bool (!want))) ∨ st.T s = .o (.v undef))
def undU : Upd := ⟨.o (.v undef), [], []⟩

theorem vcs_op {dr : Md} {all rest : List Oper} {k : List Frm} {o : Oper} {n : Nat} {st : St} (h : vcs P Q (n + 1) (.ops dr all (o :: rest) :: k) st) :
    (runs all st o ∧ ∃ u, OpOK P st.T st.m.get st.n o.op u ∧ vcs P Q n (.ops dr all rest :: k) (st.put o.dst u) ∧ (cls dr o.op = 1 → u.wr = [])) ∨
    (skips all st o ∧ vcs P Q n (.ops dr all rest :: k) (st.put o.dst undU)) ∨
    (runs all st o ∧ dr = .plain ∧ RawOp P st o.op o.dst fun st' => vcs P Q n (.ops dr all rest :: k) st') := by
  obtain ⟨d, op, ty, pos, after, g⟩ := o
  simp only [vcs] at h
  split at h
  · rcases opVC_spec h with ⟨u, h1, h2, h3⟩ | ⟨h1, h2⟩
    · exact .inl ⟨.inl rfl, u, h1, h2, h3⟩
    · exact .inr (.inr ⟨.inl rfl, h1, h2⟩)
  · rename_i j want
    split at h
    · exact h.elim
    · rename_i s hs
      split at h
      · rename_i b hb
        by_cases hbw : b = want
        · subst hbw
          have h1 := h.1 rfl
          rw [see_same hb] at h1
          rcases opVC_spec h1 with ⟨u, h1, h2, h3⟩ | ⟨h1, h2⟩
          · exact .inl ⟨.inr ⟨j, b, s, rfl, hs, hb⟩, u, h1, h2, h3⟩
          · exact .inr (.inr ⟨.inr ⟨j, b, s, rfl, hs, hb⟩, h1, h2⟩)
        · have hbn : b = !want := by cases b <;> cases want <;> simp_all
          subst hbn
          have h1 := h.2 rfl
          rw [see_same hb] at h1
          exact .inr (.inl ⟨⟨j, want, s, rfl, hs, .inl hb⟩, h1⟩)
      · rename_i y _ hy
        obtain ⟨rfl, h⟩ := h
        exact .inr (.inl ⟨⟨j, want, s, rfl, hs, .inr hy⟩, h⟩)
      · exact h.elim

theorem den_bool {ρ : Nat → Loc} {M : MemF} {b : Bool} {y : Value} (h : Den ρ M (.o (.v (.bool b))) y) : y = .bool b := h

theorem yielded_of {w0 : Base} {ρ : Nat → Loc} {T : Nat → AV} {M : MemF} {N : Nat} {a : Act} {w : World} (h : SatS w0 ρ T M N a w) {all : List Oper} {j s : Nat} {b : Bool} (hs : gslot all j = some s) (hb : T s = .o (.v (.bool b))) :
    yielded all.toArray a.tmps j = some b := by
  have hd := h.slot s
  rw [hb] at hd
  have hd := den_bool hd
  unfold yielded
  have : ((all.toArray[j]?).bind (·.dst)) = some s := by simpa [gslot] using hs
  rw [this]
  simp only [Option.bind_some]
  rw [Array.getD_eq_getD_getElem?] at hd
  cases ht : a.tmps[s]? with
  | none => rw [ht] at hd; simp [undef] at hd
  | some v => rw [ht] at hd; simp at hd; simp [hd]

theorem yielded_none {w0 : Base} {ρ : Nat → Loc} {T : Nat → AV} {M : MemF} {N : Nat} {a : Act} {w : World} (h : SatS w0 ρ T M N a w) {all : List Oper} {j s : Nat} (hs : gslot all j = some s) (hb : T s = .o (.v undef)) :
    yielded all.toArray a.tmps j = none := by
  have hd := h.slot s
  rw [hb] at hd
  have hd : a.tmps.getD s undef = undef := hd
  unfold yielded
  have : ((all.toArray[j]?).bind (·.dst)) = some s := by simpa [gslot] using hs
  rw [this]
  simp only [Option.bind_some]
  rw [Array.getD_eq_getD_getElem?] at hd
  cases ht : a.tmps[s]? with
  | none => rfl
  | some v => rw [ht] at hd; simp at hd; simp [hd, undef]
theorem wanted_runs {w0 : Base} {ρ : Nat → Loc} {st : St} {a : Act} {w : World} (h : SatS w0 ρ st.T st.m.get st.t.length a w) {all : List Oper} {o : Oper} (hr : runs all st o) : Region.wanted o (yielded all.toArray a.tmps) = true := by
  rcases hr with hg | ⟨j, want, s, hg, hs, hb⟩
  · simp [Region.wanted, hg]
  · simp [Region.wanted, hg, yielded_of h hs hb]
theorem wanted_skips {w0 : Base} {ρ : Nat → Loc} {st : St} {a : Act} {w : World} (h : SatS w0 ρ st.T st.m.get st.t.length a w) {all : List Oper} {o : Oper} (hr : skips all st o) : Region.wanted o (yielded all.toArray a.tmps) = false := by
  obtain ⟨j, want, s, hg, hs, hb | hb⟩ := hr
  · simp [Region.wanted, hg, yielded_of h hs hb]
  · simp [Region.wanted, hg, yielded_none h hs hb]

theorem out_of {st : St} (hid : ∀ j, (st.m.get j).isSome = true → j < st.n) : ∀ k, (st.m.get k).isSome = true → Out st.n k := fun k hk => .inl (hid k hk)

theorem SatI.skip {w0 : Base} {ρ : Nat → Loc} {st : St} {a : Act} {w : World} (h : SatI w0 ρ st a w) (d : Option Nat) : SatI w0 ρ (st.put d undU) (a.put d undef) w :=
  h.put (fun _ _ => rfl) (fun k e he => by cases he) (by rw [undU, applyM_nil]; exact h.1.mem) h.1.below (by rw [undU, applyM_nil]; exact rfl)

/-- A region that keeps the text's order. -/
theorem ops_sound {all : List Oper} {k : List Frm} {g : Base} (r : Option Nat) (n : Nat) (ih : ∀ m, m < n → ∀ st, vcs P Q m k st → (SVX P Q k).1 st) : ∀ (m : Nat), m ≤ n → ∀ (rest : List Oper) (st : St) (ρ : Nat → Loc) (a : Act) (w : World),
    vcs P Q m (.ops .plain all rest :: k) st → SatN g ρ st a w → wpListIn (FW r) 0 P all.toArray (PostS P Q g k) rest a w
  | 0, _, _, _, _, _, _, h, _ => h.elim
  | m + 1, hm, [], st, ρ, a, w, h, hs => wpListIn_nil ⟨ρ, st, hs, ih m (by omega) st h⟩
  | m + 1, hm, o :: rest, st, ρ, a, w, h, hs => by
    refine wpListIn_step fun K hK => ?_
    obtain ⟨w0, hx, hs⟩ := hs
    rcases vcs_op h with ⟨hr, u, hok, hv, _⟩ | ⟨hr, hv⟩ | ⟨hr, _, hraw⟩
    · rw [if_pos (wanted_runs hs.1 hr)]
      refine oper_in r (opOK_nodefer hok) ?_
      refine op_sound hs.1 (out_of hs.2) rfl hok ?_
      intro y w' ρ' h1 h2 h3 h4
      refine hK _ _ (ops_sound r n ih m (by omega) rest _ ρ' _ _ hv ?_)
      exact ⟨w0, hx, hs.put (fun k hk => h1 k (.inl hk)) (fun k e he => (opOK_ids hok k e he).2) h2 h3 h4⟩
    · rw [if_neg (by rw [wanted_skips hs.1 hr]; simp)]
      exact ⟨fun _ _ => trivial, hK _ _ (ops_sound r n ih m (by omega) rest _ ρ _ _ hv ⟨w0, hx, hs.skip _⟩)⟩
    · rw [if_pos (wanted_runs hs.1 hr)]
      exact hraw o rfl rfl r g ρ a w K _ ⟨w0, hx, hs⟩ (fun ρ' st' a' w' hs' hv => hK _ _ (ops_sound r n ih m (by omega) rest _ ρ' _ _ hv hs'))

end
end Go.Sx
namespace Go.Sx
section
variable {sb : Md} {P : Program}

/-! ### what is ahead of what -/
theorem fold_test {acc : List Nat} {i : Nat} : ∀ (L : List Edge) (s0 : Nat), (L.foldl (fun s e => if Region.binds .any e then s ||| 2 ^ e.on ||| acc.getD e.on 0 else s) s0).testBit i = true →
    s0.testBit i = true ∨ ∃ e ∈ L, Region.binds .any e = true ∧ (e.on = i ∨ (acc.getD e.on 0).testBit i = true)
  | [], s0, h => .inl h
  | e :: L, s0, h => by
    simp only [List.foldl_cons] at h
    rcases fold_test L _ h with h1 | ⟨e', h1, h2⟩
    · by_cases hb : Region.binds .any e = true
      · simp only [hb, if_true, Nat.testBit_or, Bool.or_eq_true] at h1
        rcases h1 with (h1 | h1) | h1
        · exact .inl h1
        · refine .inr ⟨e, by simp, hb, .inl ?_⟩
          simpa [Nat.testBit_two_pow] using h1
        · exact .inr ⟨e, by simp, hb, .inr h1⟩
      · simp only [hb] at h1; exact .inl h1
    · exact .inr ⟨e', by simp [h1], h2⟩

theorem masks_take : ∀ (l : List Oper) (acc : List Nat), (masks l acc).take acc.length = acc ∧ (masks l acc).length = acc.length + l.length
  | [], acc => by simp [masks]
  | o :: l, acc => by
    have h := masks_take l (acc ++ [maskOf acc o])
    simp only [masks]
    refine ⟨?_, by rw [h.2]; simp; omega⟩
    have h1 := congrArg (List.take acc.length) h.1
    rw [List.take_take] at h1
    simpa using h1
theorem masks_at : ∀ (l : List Oper) (acc : List Nat) (j : Nat) (o : Oper), l[j]? = some o → (masks l acc)[acc.length + j]? = some (maskOf ((masks l acc).take (acc.length + j)) o)
  | [], _, _, _, h => by simp at h
  | o :: l, acc, 0, o', h => by
    simp at h; subst h
    simp only [masks, Nat.add_zero]
    have h1 := (masks_take l (acc ++ [maskOf acc o])).1
    have h2 : (masks l (acc ++ [maskOf acc o])).take acc.length = acc := by
      have := congrArg (List.take acc.length) h1
      rw [List.take_take] at this
      simpa using this
    rw [h2]
    have := congrArg (fun x => x[acc.length]?) h1
    simpa [List.getElem?_take] using this
  | o :: l, acc, j + 1, o', h => by
    simp only [masks]
    have := masks_at l (acc ++ [maskOf acc o]) j o' (by simpa using h)
    simp only [List.length_append, List.length_singleton] at this
    have e : acc.length + 1 + j = acc.length + (j + 1) := by omega
    rw [e] at this; exact this

def befS (all : List Oper) (i j : Nat) : Prop := ((masks all []).getD j 0).testBit i = true

def Closed (all : List Oper) (S : Nat → Bool) : Prop := ∀ j o, all[j]? = some o → S j = true → ∀ e ∈ o.after.toList, Region.binds .any e = true → S e.on = true

theorem bef_closed {all : List Oper} {S : Nat → Bool} (hS : Closed all S) : ∀ (j : Nat) (o : Oper), all[j]? = some o → ∀ i, befS all i j → (∀ e ∈ o.after.toList, Region.binds .any e = true → S e.on = true) → S i = true := by
  intro j
  induction j using Nat.strongRecOn with
  | _ j ih =>
    intro o ho i hb hafter
    unfold befS at hb
    have hm := masks_at all [] j o ho
    simp only [List.length_nil, Nat.zero_add] at hm
    rw [List.getD_eq_getElem?_getD, hm] at hb
    simp only [Option.getD_some, maskOf] at hb
    rcases fold_test _ _ hb with h0 | ⟨e, he, hbind, h1⟩
    · simp at h0
    · have hon := hafter e he hbind
      rcases h1 with h1 | h1
      · rw [← h1]; exact hon
      · have hlt : e.on < j := by
          rcases Nat.lt_or_ge e.on j with h' | h'
          · exact h'
          · rw [List.getD_eq_getElem?_getD, List.getElem?_take, if_neg (by omega)] at h1
            simp at h1
        have hlen : e.on < all.length := by have := (List.getElem?_eq_some_iff.1 ho).1; omega
        refine ih e.on hlt all[e.on] (List.getElem?_eq_getElem hlen) i ?_ (fun e' he' hb' => hS e.on _ (List.getElem?_eq_getElem hlen) hon e' he' hb')
        unfold befS
        rw [List.getD_eq_getElem?_getD, List.getElem?_take, if_pos hlt] at h1
        rw [List.getD_eq_getElem?_getD]
        exact h1

/-! ### the states that a set of operations leaves -/
def setT (N : Nat) (T : Nat → AV) (d : Option Nat) (r : AV) : Nat → AV := fun x => if d = some x ∧ x < N then r else T x
def TS (N : Nat) (all : List Oper) (us : List Upd) (S : Nat → Bool) (T : Nat → AV) : Nat → Nat → AV
  | 0 => T
  | j + 1 => if S j then setT N (TS N all us S T j) (gslot all j) (us.getD j undU).r else TS N all us S T j
def MS (us : List Upd) (S : Nat → Bool) (M : MemF) : Nat → MemF
  | 0 => M
  | j + 1 => if S j then applyM (MS us S M j) (us.getD j undU) else MS us S M j
def ins (S : Nat → Bool) (i : Nat) : Nat → Bool := fun j => if j = i then true else S j

variable {N : Nat} {all : List Oper} {us : List Upd} {S : Nat → Bool} {T : Nat → AV} {M : MemF}

theorem TS_ins {i : Nat} (hi : S i = false) (hd : ∀ j, j ≠ i → gslot all j = none ∨ gslot all j ≠ gslot all i) : ∀ p, (p ≤ i → TS N all us (ins S i) T p = TS N all us S T p) ∧
    (i < p → TS N all us (ins S i) T p = setT N (TS N all us S T p) (gslot all i) (us.getD i undU).r)
  | 0 => ⟨fun _ => rfl, fun h => by omega⟩
  | p + 1 => by
    have ih := TS_ins hi hd p
    constructor
    · intro hp
      have hne : p ≠ i := by omega
      simp only [TS, ins, hne, if_false, ih.1 (by omega)]
    · intro hp
      by_cases hpi : p = i
      · subst hpi
        simp only [TS, ins, if_true, hi, ih.1 (Nat.le_refl _)]
        simp
      · have hne : p ≠ i := hpi
        simp only [TS, ins, hne, if_false, ih.2 (by omega)]
        cases hS : S p with
        | false => simp
        | true =>
          simp only [if_true]
          funext x
          simp only [setT]
          rcases hd p hne with h0 | h0
          · simp [h0]
          · by_cases h1 : gslot all p = some x
            · have h2 : gslot all i ≠ some x := by rw [← h1]; exact Ne.symm h0
              simp [h1, h2]
            · simp [h1]

def touch (u : Upd) (k : Nat) : Prop := (u.cr.get k).isSome = true ∨ (u.wr.get k).isSome = true
theorem applyM_untouched {u : Upd} {k : Nat} (h : ¬ touch u k) (M : MemF) : applyM M u k = M k := by
  unfold touch at h
  unfold applyM
  cases h1 : u.cr.get k with
  | some e => simp [h1] at h
  | none =>
    cases h2 : u.wr.get k with
    | some e => simp [h2] at h
    | none => cases M k <;> rfl
theorem applyM_congr {u : Upd} {k : Nat} {M M' : MemF} (h : M k = M' k) : applyM M u k = applyM M' u k := by
  unfold applyM; rw [h]

theorem MS_ins {i : Nat} (hi : S i = false) (hd : ∀ j, i < j → S j = true → ∀ k, ¬ (touch (us.getD i undU) k ∧ touch (us.getD j undU) k)) : ∀ p, (p ≤ i → MS us (ins S i) M p = MS us S M p) ∧
    (i < p → MS us (ins S i) M p = applyM (MS us S M p) (us.getD i undU))
  | 0 => ⟨fun _ => rfl, fun h => by omega⟩
  | p + 1 => by
    have ih := MS_ins hi hd p
    constructor
    · intro hp
      have hne : p ≠ i := by omega
      simp only [MS, ins, hne, if_false, ih.1 (by omega)]
    · intro hp
      by_cases hpi : p = i
      · subst hpi
        simp only [MS, ins, if_true, hi, ih.1 (Nat.le_refl _)]
        simp
      · have hne : p ≠ i := hpi
        simp only [MS, ins, hne, if_false, ih.2 (by omega)]
        cases hS : S p with
        | false => simp
        | true =>
          simp only [if_true]
          funext k
          by_cases h1 : touch (us.getD i undU) k
          · have h2 : ¬ touch (us.getD p undU) k := fun h2 => hd p (by omega) hS k ⟨h1, h2⟩
            rw [applyM_untouched h2]
            exact applyM_congr (applyM_untouched h2 _).symm
          · rw [applyM_untouched h1]
            exact applyM_congr (applyM_untouched h1 _)

theorem TS_other {x : Nat} : ∀ p, (∀ j, j < p → S j = true → gslot all j ≠ some x) → TS N all us S T p x = T x
  | 0, _ => rfl
  | p + 1, h => by
    have ih := TS_other p (fun j hj => h j (by omega))
    simp only [TS]
    split
    · rename_i hS
      simp only [setT]
      rw [if_neg (fun hh => h p (by omega) hS hh.1), ih]
    · exact ih
theorem TS_writer {x j : Nat} (hx : gslot all j = some x) (hS : S j = true) (hu : ∀ j', j' ≠ j → gslot all j' ≠ some x) : ∀ p, j < p → TS N all us S T p x = if x < N then (us.getD j undU).r else T x
  | 0, h => by omega
  | p + 1, h => by
    simp only [TS]
    by_cases hp : p = j
    · subst hp
      simp only [hS, if_true, setT, hx, true_and]
      split
      · rfl
      · exact TS_other p (fun j' hj' _ => hu j' (by omega))
    · have ih := TS_writer hx hS hu p (by omega)
      split
      · simp only [setT]
        rw [if_neg (fun hh => hu p hp hh.1), ih]
      · exact ih

theorem MS_dom {k : Nat} : ∀ p, (MS us S M p k).isSome = true → (M k).isSome = true ∨ ∃ j, j < p ∧ S j = true ∧ ((us.getD j undU).cr.get k).isSome = true
  | 0, h => .inl h
  | p + 1, h => by
    simp only [MS] at h
    split at h
    · rename_i hS
      unfold applyM at h
      split at h
      · rename_i e he; exact .inr ⟨p, by omega, hS, by rw [he]; rfl⟩
      · split at h
        · simp at h
        · rename_i e0 he0
          rcases MS_dom p (by rw [he0]; rfl) with h1 | ⟨j, h1, h2⟩
          · exact .inl h1
          · exact .inr ⟨j, by omega, h2⟩
    · rcases MS_dom p h with h1 | ⟨j, h1, h2⟩
      · exact .inl h1
      · exact .inr ⟨j, by omega, h2⟩

theorem TS_congr {S' : Nat → Bool} : ∀ p, (∀ j, j < p → S j = S' j) → TS N all us S T p = TS N all us S' T p
  | 0, _ => rfl
  | p + 1, h => by simp only [TS]; rw [TS_congr p (fun j hj => h j (by omega)), h p (by omega)]
theorem MS_congr {S' : Nat → Bool} : ∀ p, (∀ j, j < p → S j = S' j) → MS us S M p = MS us S' M p
  | 0, _ => rfl
  | p + 1, h => by simp only [MS]; rw [MS_congr p (fun j hj => h j (by omega)), h p (by omega)]

/-- Two sets that agree on who writes k: what both have at k is one. -/
theorem MS_agree {S' : Nat → Bool} {k : Nat} (hw : ∀ j, ((us.getD j undU).wr.get k).isSome = true → S j = S' j) (hc : ∀ j, ((us.getD j undU).cr.get k).isSome = true → (M k) = none ∧ ∀ j', ((us.getD j' undU).cr.get k).isSome = true → j' = j) :
    ∀ p e e', MS us S M p k = some e → MS us S' M p k = some e' → e = e'
  | 0, e, e', h, h' => by simp only [MS] at h h'; rw [h] at h'; simpa using h'
  | p + 1, e, e', h, h' => by
    have ih := MS_agree hw hc p
    have hnone : ((us.getD p undU).cr.get k).isSome = true → ∀ S'' : Nat → Bool, MS us S'' M p k = none := by
      intro hcr S''
      cases hm : MS us S'' M p k with
      | none => rfl
      | some e2 =>
        rcases MS_dom p (by rw [hm]; rfl) with h1 | ⟨j, h1, _, h3⟩
        · rw [(hc p hcr).1] at h1; cases h1
        · have := (hc p hcr).2 j h3; omega
    have step : ∀ S'' : Nat → Bool, MS us S'' M (p + 1) k = if S'' p then applyM (MS us S'' M p) (us.getD p undU) k else MS us S'' M p k := by
      intro S''; simp only [MS]; split <;> rfl
    rw [step] at h h'
    cases hcr : (us.getD p undU).cr.get k with
    | some ec =>
      have hn1 := hnone (by rw [hcr]; rfl) S
      have hn2 := hnone (by rw [hcr]; rfl) S'
      simp only [hn1, applyM, hcr] at h
      simp only [hn2, applyM, hcr] at h'
      split at h
      · split at h'
        · simp at h h'; rw [← h, ← h']
        · cases h'
      · cases h
    | none =>
      cases hwr : (us.getD p undU).wr.get k with
      | none =>
        have hu : ¬ touch (us.getD p undU) k := by unfold touch; rw [hcr, hwr]; simp
        rw [applyM_untouched hu] at h h'
        simp only [ite_self] at h h'
        exact ih e e' h h'
      | some ew =>
        have hSS := hw p (by rw [hwr]; rfl)
        rw [hSS] at h
        by_cases hS : S' p = true
        · simp only [hS, if_true, applyM, hcr, hwr] at h h'
          split at h
          · cases h
          · split at h'
            · cases h'
            · simp at h h'; rw [← h, ← h']
        · simp only [hS] at h h'
          exact ih e e' h h'

end
end Go.Sx
namespace Go.Sx
section
variable {sb : Md} {P : Program} {w0 : Base} {ρ : Nat → Loc} {T T' : Nat → AV} {M M' : MemF} {N : Nat} {a : Act} {w : World} {id : Nat}

theorem pureOp_congr {op : Op} (hT : ∀ x ∈ op.operands.toList, ev T' x = ev T x) : pureOp P T' op = pureOp P T op := by
  funext z
  apply propext
  unfold pureOp
  constructor
  · intro h o a w ho hx hf
    exact h o a w ho (fun x hm y hy => hx x hm y (by rw [← hT x (by simpa using hm)]; exact hy)) hf
  · intro h o a w ho hx hf
    exact h o a w ho (fun x hm y hy => hx x hm y (by rw [hT x (by simpa using hm)]; exact hy)) hf

theorem plains_congr : ∀ {l : List (Nat × Operand)}, (∀ x ∈ l.map (·.2), ev T' x = ev T x) → plains T' l = plains T l
  | [], _ => rfl
  | (i, x) :: l, h => by
    simp only [plains]
    rw [h x (by simp), plains_congr (l := l) (fun y hy => h y (by simp at hy ⊢; exact .inr hy))]

theorem boxKs_congr : ∀ {l : List Operand}, (∀ x ∈ l, ev T' x = ev T x) → boxKs T' l = boxKs T l
  | [], _ => rfl
  | x :: l, h => by
    simp only [boxKs]
    rw [h x (by simp), boxKs_congr (l := l) (fun y hy => h y (by simp [hy]))]

theorem sliceCells_local {size : Nat} {x : AV} {n : Nat} {xs : List Value} (h : sliceCells M size x = some (n, xs)) (hM : ∀ k e, M k = some e → (M' k).isSome = true → M' k = some e) (hlive : (∀ k, (∃ n, x = .o (.r k n)) ∨ (∃ off len, x = .o (.s k off len)) → (M' k).isSome = true)) :
    sliceCells M' size x = some (n, xs) := by
  unfold sliceCells at h
  split at h
  · rename_i k off len
    have hk := hlive k (.inr ⟨off, len, rfl⟩)
    cases hMk : M k with
    | none => simp [hMk] at h
    | some e => simp only [sliceCells, hM k e hMk hk]; simpa [hMk] using h
  · rename_i k n0
    have hk := hlive k (.inl ⟨n0, rfl⟩)
    cases hMk : M k with
    | none => simp [hMk] at h
    | some e => simp only [sliceCells, hM k e hMk hk]; simpa [hMk] using h
  · exact h
  · cases h

theorem argsMatch_local : ∀ {xs : List AV} {as : List Arg}, argsMatch M xs as → (∀ k e, M k = some e → (M' k).isSome = true → M' k = some e) → (∀ k r F, M k = some (.fact r F) → (M' k).isSome = true) → (∀ x ∈ xs, ∀ k, ((∃ n, x = .o (.r k n)) ∨ (∃ off len, x = .o (.s k off len))) ∨ (∃ off, x = .o (.p k off)) → (M' k).isSome = true) → argsMatch M' xs as
  | [], [], _, _, _, _ => trivial
  | x :: xs, b :: as, h, hM, hF, hl => by
    refine ⟨?_, argsMatch_local h.2 hM hF (fun y hy => hl y (by simp [hy]))⟩
    have h1 := h.1
    cases b with
    | val y =>
      cases x with
      | o a0 => cases a0 <;> first | exact h1 | exact h1.elim
      | t l => exact h1.elim
    | fa y F =>
      cases x with
      | o a0 => cases a0 <;> first | exact h1.elim | exact ⟨h1.1, fun w hw => h1.2 w fun k r F0 hk hr => hw k r F0 (hM k _ hk (hF k r F0 hk)) hr⟩
      | t l => exact h1.elim
    | sl n size ys =>
      have h2 : sliceCells M size x = some (n, ys) ∧ ys.length = n * size := by
        revert h1; cases x with
        | o a0 => cases a0 <;> exact fun h1 => h1
        | t l => exact fun h1 => h1
      obtain ⟨hs, hlen⟩ := h2
      have h3 : sliceCells M' size x = some (n, ys) ∧ ys.length = n * size := ⟨sliceCells_local hs hM (fun k hk => hl x (by simp) k (.inl hk)), hlen⟩
      revert h3; cases x with
      | o a0 => cases a0 <;> exact fun h1 => h1
      | t l => exact fun h1 => h1
    | mv e size n ys =>
      cases x with
      | o a0 =>
        cases a0 with
        | r k n0 => exact hM k _ h1 (hl _ (by simp) k (.inl (.inl ⟨n0, rfl⟩)))
        | _ => exact h1.elim
      | t l => exact h1.elim
    | io e size n ys zs =>
      cases x with
      | o a0 =>
        cases a0 with
        | r k n0 => exact hM k _ h1 (hl _ (by simp) k (.inl (.inl ⟨n0, rfl⟩)))
        | _ => exact h1.elim
      | t l => exact h1.elim
    | fv f => rw [fv_match h1]; rfl
    | ib ys zs =>
      obtain ⟨k, rfl, hMk, q1, q2⟩ := ib_match h1
      exact ⟨rfl, hM k _ hMk (hl _ (by simp) k (.inr ⟨0, rfl⟩)), q1, q2⟩
    | bx ys =>
      obtain ⟨k, off, e, cs, rfl, hMk, hc, rfl⟩ := bx_match h1
      have hk := hM k e hMk (hl _ (by simp) k (.inr ⟨off, rfl⟩))
      show boxCells M' (.o (.p k off)) = some (cs.drop off)
      simp only [boxCells, hk, hc]
  | [], _ :: _, h, _, _, _ => h.elim
  | _ :: _, [], h, _, _, _ => h.elim

theorem live_of_den {x : AV} {y : Value} (h : Den ρ M' x y) : ∀ k, (∃ n, x = .o (.r k n)) ∨ (∃ off len, x = .o (.s k off len)) → (M' k).isSome = true := by
  rintro k (⟨n, rfl⟩ | ⟨off, len, rfl⟩)
  · exact h.1
  · exact h.1

theorem live_of_den2 {x : AV} {y : Value} (h : Den ρ M' x y) : ∀ k, ((∃ n, x = .o (.r k n)) ∨ (∃ off len, x = .o (.s k off len))) ∨ (∃ off, x = .o (.p k off)) → (M' k).isSome = true := by
  rintro k ((⟨n, rfl⟩ | ⟨off, len, rfl⟩) | ⟨off, rfl⟩)
  · exact h.1
  · exact h.1
  · exact h.1

theorem opOK_local {op : Op} {u : Upd} (hok : OpOK P T M id op u) (hS : SatS w0 ρ T' M' N a w) (hT : ∀ x ∈ op.operands.toList, ev T' x = ev T x)
    (hM0 : 1 ≤ cls sb op → ∀ k e, (∀ ty x, op = .load ty x → ∃ off, ev T x = .o (.p k off)) → (∀ ty x z, op = .store ty x z → ∃ off, ev T x = .o (.p k off)) → M k = some e → (M' k).isSome = true → M' k = some e) (hF : ∀ k r F, M k = some (.fact r F) → M' k = some (.fact r F)) : OpOK P T' M' id op u := by
  have hM : (∀ ty x, op ≠ .load ty x) → (∀ ty x z, op ≠ .store ty x z) → 1 ≤ cls sb op → ∀ k e, M k = some e → (M' k).isSome = true → M' k = some e := fun hn hn2 hc k e => hM0 hc k e (fun ty x h => absurd h (hn ty x)) (fun ty x z h => absurd h (hn2 ty x z))
  have cloc : ∀ f args, opEff P T M id op = .clo f args → callOK P M id f args u → callOK P M' id f args u := by
    intro f args he hok
    obtain ⟨c, i, ks, rfl, hcal, hTi, rfl⟩ := clo_spec he
    have ha : ∀ x ∈ c.args.toList, ev T' x = ev T x := by
      intro x hx
      refine hT x ?_
      simp only [Op.operands, Go.Call.operands, hcal]
      simp [hx]
    have hi : ev T' (.tmp i) = ev T (.tmp i) := by
      refine hT (.tmp i) ?_
      simp only [Op.operands, Go.Call.operands, hcal]
      simp
    obtain ⟨as, rs, h1, h2, h3', h4, h5⟩ := hok
    refine ⟨as, rs, h1, argsMatch_local h2 (hM (by simp) (by simp) (by simp [cls, hcal])) (fun k r F hk => by rw [hF k r F hk]; rfl) ?_, h3', h4, h5⟩
    intro x hx k hk
    rcases List.mem_append.1 hx with hx | hx
    · obtain ⟨y, hy, rfl⟩ := List.mem_map.1 hx
      have hd := hS.eval y
      rw [ha y hy] at hd
      exact live_of_den2 hd k hk
    · obtain ⟨k', hk', rfl⟩ := List.mem_map.1 hx
      have hd := hS.eval (.tmp i)
      rw [hi, show ev T (.tmp i) = .o (.fn f ks) from hTi] at hd
      rcases hk with (⟨n, h0⟩ | ⟨off, len, h0⟩) | ⟨off, h0⟩
      · cases h0
      · cases h0
      · simp only [AV.o.injEq, A0.p.injEq] at h0
        rw [← h0.1]
        exact hd.1 k' hk'
  have fin : opEff P T' M' id op = opEff P T M id op → (∀ f args, opEff P T M id op ≠ .call f args) → OpOK P T' M' id op u := by
    intro he hc
    unfold OpOK at hok ⊢
    rw [he]
    split at hok
    · exact hok
    · exact hok
    · exact hok
    · rename_i f args h; exact absurd h (hc f args)
    · rename_i f args h; exact cloc f args h hok
    · exact hok
    · obtain ⟨z, h1, h2⟩ := hok
      exact ⟨z, fun o a' w' ho hx hf hw => h1 o a' w' ho (fun x hxm y hy => hx x hxm y (by rw [hT x (by simpa using hxm)]; exact hy)) hf (fun k r F hk => hw k r F (hF k r F hk)), h2⟩
  have hnc : (∀ c, op ≠ .call c) → ∀ f args, opEff P T M id op ≠ .call f args := by
    intro hn f args he
    obtain ⟨c, rfl, _⟩ := call_spec he
    exact hn c rfl
  cases op with
  | call c =>
    cases hcal : c.callee with
    | builtin b =>
      cases b with
      | append =>
        refine fin ?_ (fun f args he => ?_)
        · have ha : ∀ x ∈ c.args.toList, ev T' x = ev T x := by
            intro x hx
            refine hT x ?_
            simp only [Op.operands, Go.Call.operands, hcal]
            simpa using hx
          have hM' := hM (by simp) (by simp) (by simp [cls, hcal])
          unfold OpOK at hok
          simp only [opEff, hcal] at hok ⊢
          split
          · rename_i x y ty ty' hxs htys
            have ex := ha x (by rw [hxs]; simp)
            have ey := ha y (by rw [hxs]; simp)
            rw [ex, ey]
            simp only [hxs, htys] at hok
            split
            · rename_i m hm
              simp only [hm] at hok
              cases hsc : sliceCells M m.size (ev T y) with
              | none => simp [hsc] at hok
              | some qn =>
                obtain ⟨q, news⟩ := qn
                have hdy := hS.eval y
                rw [ey] at hdy
                rw [sliceCells_local hsc hM' (live_of_den hdy)]
                simp only [hsc] at hok ⊢
                cases hxv : ev T x with
                | t l => rfl
                | o a0 =>
                  cases a0 with
                  | r k n =>
                    have hdx := hS.eval x
                    rw [ex, hxv] at hdx
                    simp only [hxv] at hok ⊢
                    cases hMk : M k with
                    | none => simp [hMk] at hok
                    | some e => rw [hM' k e hMk hdx.1]
                  | v z => split <;> first | (rename_i h0; cases h0; done) | simp_all
                  | _ => rfl
            · rfl
          · rfl
        · obtain ⟨c', hc', hcal', _⟩ := call_spec he
          cases hc'
          rw [hcal] at hcal'; cases hcal'
      | len =>
        refine fin ?_ (fun f args he => ?_)
        · have hp := pureOp_congr (P := P) hT
          have ha : ∀ x ∈ c.args.toList, ev T' x = ev T x := by
            intro x hx
            refine hT x ?_
            simp only [Op.operands, Go.Call.operands, hcal]
            simpa using hx
          simp only [opEff, hcal]
          split
          · rename_i x ty hxs htys
            rw [ha x (by rw [hxs]; simp), hp]
          · rfl
        · obtain ⟨c', hc', hcal', _⟩ := call_spec he
          cases hc'
          rw [hcal] at hcal'; cases hcal'
      | _ =>
        refine fin ?_ (fun f args he => ?_)
        · simp only [opEff, hcal, pureOp_congr (P := P) hT]
        · obtain ⟨c', hc', hcal', _⟩ := call_spec he
          cases hc'
          rw [hcal] at hcal'; cases hcal'
    | invoke r m =>
      refine fin ?_ (fun f args he => ?_)
      · simp only [opEff, hcal, pureOp_congr (P := P) hT]
      · obtain ⟨c', hc', hcal', _⟩ := call_spec he
        cases hc'
        rw [hcal] at hcal'; cases hcal'
    | value f =>
      cases f with
      | func f =>
        have ha : ∀ x ∈ c.args.toList, ev T' x = ev T x := by
          intro x hx
          refine hT x ?_
          simp only [Op.operands, Go.Call.operands, hcal]
          simp [hx]
        have hmap : c.args.toList.map (ev T') = c.args.toList.map (ev T) := List.map_congr_left ha
        unfold OpOK at hok ⊢
        simp only [opEff, hcal] at hok ⊢
        obtain ⟨as, rs, h1, h2, h3', h4, h5⟩ := hok
        rw [hmap]
        refine ⟨as, rs, h1, argsMatch_local h2 (hM (by simp) (by simp) (by simp [cls, hcal])) (fun k r F hk => by rw [hF k r F hk]; rfl) ?_, h3', h4, h5⟩
        intro x hx k hk
        obtain ⟨y, hy, rfl⟩ := List.mem_map.1 hx
        have hd := hS.eval y
        rw [ha y hy] at hd
        exact live_of_den2 hd k hk
      | tmp i =>
        refine fin ?_ (fun f args he => ?_)
        · have ha : ∀ x ∈ c.args.toList, ev T' x = ev T x := by
            intro x hx
            refine hT x ?_
            simp only [Op.operands, Go.Call.operands, hcal]
            simp [hx]
          have hi : T' i = T i := by
            refine hT (.tmp i) ?_
            simp only [Op.operands, Go.Call.operands, hcal]
            simp
          have hmap : c.args.toList.map (ev T') = c.args.toList.map (ev T) := List.map_congr_left ha
          simp only [opEff, hcal, hi, hmap]
        · obtain ⟨c', hc', hcal', _⟩ := call_spec he
          cases hc'
          rw [hcal] at hcal'; cases hcal'
      | _ =>
        refine fin ?_ (fun f args he => ?_)
        · simp only [opEff, hcal, pureOp_congr (P := P) hT]
        · obtain ⟨c', hc', hcal', _⟩ := call_spec he
          cases hc'
          rw [hcal] at hcal'; cases hcal'
  | makeFunc fn first cap =>
    refine fin ?_ (hnc (by intro c; simp))
    simp only [opEff]
    rw [boxKs_congr (T := T) (T' := T') (by intro x hx; exact hT x (by simp [Op.operands]; exact .inr (by simpa using hx)))]
  | load ty x =>
    refine fin ?_ (hnc (by intro c; simp))
    have hx := hT x (by simp [Op.operands])
    have hd := hS.eval x
    unfold OpOK at hok
    simp only [opEff] at hok ⊢
    rw [hx]
    cases hxv : ev T x with
    | o a0 =>
      cases a0 with
      | p k off =>
        rw [hx, hxv] at hd
        simp only [hxv] at hok ⊢
        unfold loadEff at hok ⊢
        cases hMk : M k with
        | none => simp [hMk] at hok
        | some e => rw [hM0 (by simp [cls]) k e (fun ty x h => by cases h; exact ⟨off, hxv⟩) (fun ty x z h => by cases h) hMk hd.1]
      | _ => rfl
    | t l => rfl
  | store ty x y =>
    refine fin ?_ (hnc (by intro c; simp))
    have hx := hT x (by simp [Op.operands])
    have hy := hT y (by simp [Op.operands])
    have hd := hS.eval x
    unfold OpOK at hok
    simp only [opEff] at hok ⊢
    rw [hx, hy]
    cases hxv : ev T x with
    | o a0 =>
      cases a0 with
      | p k off =>
        rw [hx, hxv] at hd
        cases hyv : ev T y with
        | o b0 =>
          simp only [hxv, hyv] at hok ⊢
          cases b0 <;> simp only [storeA] at hok ⊢
          case v z =>
            unfold storeEff at hok ⊢
            cases hMk : M k with
            | none => simp [hMk] at hok
            | some e => rw [hM0 (by simp [cls]) k e (fun ty x h => by cases h) (fun ty x z h => by cases h; exact ⟨off, hxv⟩) hMk hd.1]
          all_goals
            unfold storeRef at hok ⊢
            cases hMk : M k with
            | none => simp [hMk] at hok
            | some e => rw [hM0 (by simp [cls]) k e (fun ty x h => by cases h) (fun ty x z h => by cases h; exact ⟨off, hxv⟩) hMk hd.1]
        | t l => rfl
      | _ => rfl
    | t l => rfl
  | buildSlice t len parts =>
    refine fin ?_ (hnc (by intro c; simp))
    simp only [opEff]
    rw [plains_congr (T := T) (T' := T') (by intro x hx; exact hT x (by simpa [Op.operands] using hx))]
  | slice ty x lo hi mx =>
    refine fin ?_ (hnc (by intro c; simp))
    have hx := hT x (by simp [Op.operands])
    have h1 : lo.map (ev T') = lo.map (ev T) := by cases lo with | none => rfl | some l => simp [hT l (by simp [Op.operands])]
    have h2 : hi.map (ev T') = hi.map (ev T) := by cases hi with | none => rfl | some l => simp [hT l (by simp [Op.operands])]
    have h3 : mx.map (ev T') = mx.map (ev T) := by cases mx with | none => rfl | some l => simp [hT l (by simp [Op.operands])]
    simp only [opEff, hx, h1, h2, h3]
  | binOp bop ty x y ty' =>
    refine fin ?_ (hnc (by intro c; simp))
    simp only [opEff, binOn, hT x (by simp [Op.operands]), hT y (by simp [Op.operands]), pureOp_congr (P := P) hT]
  | convert src dst x =>
    refine fin ?_ (hnc (by intro c; simp))
    simp only [opEff, hT x (by simp [Op.operands]), pureOp_congr (P := P) hT]
  | build t parts => exact fin (by simp only [opEff]; rw [plains_congr (T := T) (T' := T') (by intro x hx; exact hT x (by simpa [Op.operands] using hx))]; simp only [pureOp_congr (P := P) hT]) (hnc (by intro c; simp))
  | nilCheck x => exact fin (by simp only [opEff, hT x (by simp [Op.operands])]) (hnc (by intro c; simp))
  | index t x i => exact fin (by simp only [opEff, pureOp_congr (P := P) hT]) (hnc (by intro c; simp))
  | field t x f => exact fin (by simp only [opEff, pureOp_congr (P := P) hT]) (hnc (by intro c; simp))
  | move x => exact fin (by simp only [opEff, hT x (by simp [Op.operands])]) (hnc (by intro c; simp))
  | assign x => exact fin (by simp only [opEff, hT x (by simp [Op.operands])]) (hnc (by intro c; simp))
  | pick x y z => exact fin (by simp only [opEff, hT x (by simp [Op.operands]), hT y (by simp [Op.operands]), hT z (by simp [Op.operands])]) (hnc (by intro c; simp))
  | alloc e => exact fin (by simp only [opEff]) (hnc (by intro c; simp))
  | box e x => exact fin (by simp only [opEff, hT x (by simp [Op.operands])]) (hnc (by intro c; simp))
  | makeSlice t x y => exact fin (by simp only [opEff, hT x (by simp [Op.operands]), hT y (by simp [Op.operands])]) (hnc (by intro c; simp))
  | indexAddr t x y => exact fin (by simp only [opEff, hT x (by simp [Op.operands]), hT y (by simp [Op.operands])]) (hnc (by intro c; simp))
  | fieldAddr t x f => exact fin (by simp only [opEff, hT x (by simp [Op.operands])]) (hnc (by intro c; simp))
  | sliceToArrayPointer t x => exact fin (by simp only [opEff, hT x (by simp [Op.operands])]) (hnc (by intro c; simp))
  | extract x i => exact fin (by simp only [opEff, hT x (by simp [Op.operands])]) (hnc (by intro c; simp))
  | unOp uop ty x => exact fin (by simp only [opEff, hT x (by simp [Op.operands])]) (hnc (by intro c; simp))
  | _ => unfold OpOK at hok; simp only [opEff] at hok

/-- What an operation touches, by its class. -/
theorem opOK_cls {op : Op} {u : Upd} (hok : OpOK P T M id op u) : (cls sb op = 0 → u.cr = [] ∧ u.wr = []) := by
  intro hc
  unfold OpOK at hok
  split at hok
  · exact hok.elim
  · rename_i c u' he
    obtain ⟨_, rfl⟩ := hok
    cases op <;> simp only [cls] at hc <;> try (cases hc; done)
    all_goals simp only [opEff, binOn] at he <;> try (repeat' split at he)
    all_goals first
      | (cases he; done)
      | (simp only [Eff.ok.injEq] at he; obtain ⟨_, rfl⟩ := he; exact ⟨rfl, rfl⟩)
      | (rcases nilEff_no he with h | ⟨_, h⟩ <;> cases h; done)
      | ((unfold fnEff at he; split at he) <;> first | (cases he; done) | (simp only [Eff.ok.injEq] at he; obtain ⟨_, rfl⟩ := he; exact ⟨rfl, rfl⟩))
      | ((unfold sliceEff at he; repeat' split at he) <;> first | (cases he; done) | (simp only [Eff.ok.injEq] at he; obtain ⟨_, rfl⟩ := he; exact ⟨rfl, rfl⟩))
      | ((unfold binEff at he; repeat' split at he) <;> first | (cases he; done) | (simp only [Eff.ok.injEq] at he; obtain ⟨_, rfl⟩ := he; exact ⟨rfl, rfl⟩))
      | (simp_all; done)
  · obtain ⟨z, _, rfl⟩ := hok; exact ⟨rfl, rfl⟩
  · rename_i f args he
    obtain ⟨c, rfl, hcal, _⟩ := call_spec he
    simp [cls, hcal] at hc
  · rename_i f args he
    obtain ⟨c, i, ks, rfl, hcal, _⟩ := clo_spec he
    simp [cls, hcal] at hc
  · exact hok.elim
  · obtain ⟨z, _, rfl⟩ := hok; exact ⟨rfl, rfl⟩
theorem nofact_nil : ∀ k r F, Mem.get [] k ≠ some (.fact r F) := fun _ _ _ h => by cases h
theorem nofact_one {j : Nat} {e : Ent} (he : ∀ r F, e ≠ .fact r F) : ∀ k r F, Mem.get [(j, e)] k ≠ some (.fact r F) := by
  intro k r F h
  simp only [Mem.get] at h
  split at h
  · exact he r F (Option.some.inj h)
  · cases h
theorem nofact_call {f : Nat} {xs : List AV} {u : Upd} (h : callOK P M id f xs u) : (∀ k r F, u.cr.get k ≠ some (.fact r F)) ∧ ∀ k r F, u.wr.get k ≠ some (.fact r F) := by
  obtain ⟨as, rs, _, hm, _, _, rfl⟩ := h
  refine ⟨fun k r F hk => ?_, fun k r F hk => ?_⟩
  · obtain ⟨_, r', _, h3⟩ := ressE_get hk
    cases r' <;> simp [resE] at h3
  · have hm' : argsMatch M (xs.map (fun x => x)) as := by rw [List.map_id']; exact hm
    have hk' : (movedE (xs.map (fun x => x)) as).get k = some (.fact r F) := by rw [List.map_id']; exact hk
    rcases movedE_get (F := fun x => x) hm' hk' with h0 | ⟨i, x, b, e0, _, _, _, h4, _⟩
    · cases h0
    · cases b <;> simp [aftEnt] at h4
/-- No operation tells a fact. -/
theorem opOK_nofact {op : Op} {u : Upd} (hok : OpOK P T M id op u) : (∀ k r F, u.cr.get k ≠ some (.fact r F)) ∧ ∀ k r F, u.wr.get k ≠ some (.fact r F) := by
  unfold OpOK at hok
  split at hok
  · exact hok.elim
  · rename_i c u' he
    obtain ⟨_, rfl⟩ := hok
    have two : ∀ {j j' : Nat} {e e' : Ent}, (∀ r F, e ≠ .fact r F) → (∀ r F, e' ≠ .fact r F) → (∀ k r F, Mem.get [(j, e)] k ≠ some (.fact r F)) ∧ ∀ k r F, Mem.get [(j', e')] k ≠ some (.fact r F) := fun h h' => ⟨nofact_one h, nofact_one h'⟩
    cases op <;> simp only [opEff, binOn] at he <;> try (repeat' split at he)
    all_goals first
      | (cases he; done)
      | (simp only [Eff.ok.injEq] at he; obtain ⟨_, rfl⟩ := he; first | exact ⟨nofact_nil, nofact_nil⟩ | exact ⟨nofact_one (by intro _ _ h; cases h), nofact_nil⟩ | exact ⟨nofact_one (by intro _ _ h; cases h), nofact_one (by intro _ _ h; cases h)⟩)
      | (rcases nilEff_no he with h | ⟨_, h⟩ <;> cases h; done)
      | ((unfold fnEff at he; split at he) <;> first | (cases he; done) | (simp only [Eff.ok.injEq] at he; obtain ⟨_, rfl⟩ := he; exact ⟨nofact_nil, nofact_nil⟩))
      | ((unfold sliceEff at he; repeat' split at he) <;> first | (cases he; done) | (simp only [Eff.ok.injEq] at he; obtain ⟨_, rfl⟩ := he; exact ⟨nofact_nil, nofact_nil⟩))
      | ((unfold binEff at he; repeat' split at he) <;> first | (cases he; done) | (simp only [Eff.ok.injEq] at he; obtain ⟨_, rfl⟩ := he; exact ⟨nofact_nil, nofact_nil⟩))
      | ((unfold boxEff at he; split at he) <;> first | (cases he; done) | (simp only [Eff.ok.injEq] at he; obtain ⟨_, rfl⟩ := he; exact ⟨nofact_one (by intro _ _ h; cases h), nofact_nil⟩))
      | ((unfold loadEff at he; repeat' split at he) <;> first | (cases he; done) | (simp only [Eff.ok.injEq] at he; obtain ⟨_, rfl⟩ := he; exact ⟨nofact_nil, nofact_nil⟩))
      | ((unfold loadEff hdrLoad at he; repeat' split at he) <;> first | (cases he; done) | (simp only [Eff.ok.injEq] at he; obtain ⟨_, rfl⟩ := he; exact ⟨nofact_nil, nofact_nil⟩))
      | ((unfold storeA at he; split at he) <;> first | (cases he; done) | ((unfold storeEff at he; repeat' split at he) <;> first | (cases he; done) | (simp only [Eff.ok.injEq] at he; obtain ⟨_, rfl⟩ := he; exact ⟨nofact_nil, nofact_one (by intro _ _ h; cases h)⟩)) | ((unfold storeRef at he; repeat' split at he) <;> first | (cases he; done) | (simp only [Eff.ok.injEq] at he; obtain ⟨_, rfl⟩ := he; exact ⟨nofact_nil, nofact_one (by intro _ _ h; cases h)⟩)))
  · obtain ⟨z, _, rfl⟩ := hok; exact ⟨nofact_nil, nofact_nil⟩
  · exact nofact_call hok
  · exact nofact_call hok
  · exact hok.elim
  · obtain ⟨z, _, rfl⟩ := hok; exact ⟨nofact_nil, nofact_nil⟩
theorem moved_nofact : ∀ {l : List AV} {as : List Arg} {k : Nat} {e : Ent}, argsMatch M l as → (movedE l as).get k = some e → ∀ r F, M k ≠ some (.fact r F)
  | [], [], _, _, _, h => by cases h
  | [], _ :: _, _, _, hm, _ => hm.elim
  | _ :: _, [], _, _, hm, _ => hm.elim
  | x :: l, b :: as, k, e, hm, h => by
    have ih : (movedE l as).get k = some e → ∀ r F, M k ≠ some (.fact r F) := fun h' => moved_nofact hm.2 h'
    have hm1 := hm.1
    cases x with
    | t l' => cases b <;> exact ih h
    | o a0 =>
      cases a0 <;> cases b <;> first
        | exact ih h
        | (simp only [movedE, Mem.get] at h
           split at h
           · rename_i hk
             rw [hk]
             intro r F h0
             simp only [argMatch] at hm1
             first
               | (rw [hm1] at h0; cases h0; done)
               | (rw [hm1.2.1] at h0; cases h0)
           · exact ih h)
/-- No operation writes over a fact. -/
theorem opOK_factkeep {op : Op} {u : Upd} (hok : OpOK P T M id op u) : ∀ k e, u.wr.get k = some e → ∀ r F, M k ≠ some (.fact r F) := by
  have one : ∀ {j : Nat} {e0 : Ent}, (∀ r F, M j ≠ some (.fact r F)) → ∀ k e, Mem.get [(j, e0)] k = some e → ∀ r F, M k ≠ some (.fact r F) := by
    intro j e0 hj k e hk
    simp only [Mem.get] at hk
    split at hk
    · rename_i h0; rw [h0]; exact hj
    · cases hk
  have nil : ∀ k e, Mem.get [] k = some e → ∀ r F, M k ≠ some (.fact r F) := fun _ _ h => by cases h
  have kref : ∀ {ty : TypeId} {k off : Nat} {q : A0} {c : Prop} {u : Upd}, storeRef P M ty k off q = .ok c u → ∀ k e, u.wr.get k = some e → ∀ r F, M k ≠ some (.fact r F) := by
    intro ty k off q c u hq
    unfold storeRef at hq
    (repeat' split at hq) <;> first | (cases hq; done) | (simp only [Eff.ok.injEq] at hq; obtain ⟨_, rfl⟩ := hq; exact one (by intro r F h0; simp_all))
  unfold OpOK at hok
  split at hok
  · exact hok.elim
  · rename_i c u' he
    obtain ⟨_, rfl⟩ := hok
    cases op <;> simp only [opEff, binOn] at he <;> try (repeat' split at he)
    all_goals first
      | (cases he; done)
      | (simp only [Eff.ok.injEq] at he; obtain ⟨_, rfl⟩ := he; first | exact nil | exact one (by intro r F h0; simp_all))
      | (rcases nilEff_no he with h | ⟨_, h⟩ <;> cases h; done)
      | ((unfold fnEff at he; split at he) <;> first | (cases he; done) | (simp only [Eff.ok.injEq] at he; obtain ⟨_, rfl⟩ := he; exact nil))
      | ((unfold sliceEff at he; repeat' split at he) <;> first | (cases he; done) | (simp only [Eff.ok.injEq] at he; obtain ⟨_, rfl⟩ := he; exact nil))
      | ((unfold binEff at he; repeat' split at he) <;> first | (cases he; done) | (simp only [Eff.ok.injEq] at he; obtain ⟨_, rfl⟩ := he; exact nil))
      | ((unfold boxEff at he; split at he) <;> first | (cases he; done) | (simp only [Eff.ok.injEq] at he; obtain ⟨_, rfl⟩ := he; exact nil))
      | ((unfold loadEff hdrLoad at he; repeat' split at he) <;> first | (cases he; done) | (simp only [Eff.ok.injEq] at he; obtain ⟨_, rfl⟩ := he; exact nil))
      | ((unfold storeA at he; split at he) <;> first | (cases he; done) | exact kref he | ((unfold storeEff at he; repeat' split at he) <;> first | (cases he; done) | (simp only [Eff.ok.injEq] at he; obtain ⟨_, rfl⟩ := he; exact one (by intro r F h0; simp_all))))
  · obtain ⟨z, _, rfl⟩ := hok; exact nil
  · obtain ⟨as, rs, _, hm, _, _, rfl⟩ := hok; exact fun k e hk => moved_nofact hm hk
  · obtain ⟨as, rs, _, hm, _, _, rfl⟩ := hok; exact fun k e hk => moved_nofact hm hk
  · exact hok.elim
  · obtain ⟨z, _, rfl⟩ := hok; exact nil
end
end Go.Sx
namespace Go.Sx
section
variable {sb : Md} {P : Program} {Q : St → Prop}

def StepF (P : Program) (sb : Md) (all : List Oper) (st : St) (o : Oper) (u : Upd) : Prop :=
  (runs all st o ∧ OpOK P st.T st.m.get st.n o.op u ∧ (cls sb o.op = 1 → u.wr = [])) ∨ (skips all st o ∧ u = undU)
def TrL (P : Program) (sb : Md) (all : List Oper) : List Oper → List Upd → St → St → Prop
  | [], [], st, st' => st' = st
  | o :: rest, u :: us, st, st' => StepF P sb all st o u ∧ TrL P sb all rest us (st.put o.dst u) st'
  | _, _, _, _ => False

theorem vcs_trace (hp : sb ≠ .plain) {all : List Oper} {k : List Frm} : ∀ (m : Nat) (rest : List Oper) (st : St), vcs P Q m (.ops sb all rest :: k) st → ∃ us st', TrL P sb all rest us st st' ∧ ∃ m', m' < m ∧ vcs P Q m' k st'
  | 0, _, _, h => h.elim
  | m + 1, [], st, h => ⟨[], st, rfl, m, by omega, h⟩
  | m + 1, o :: rest, st, h => by
    rcases vcs_op h with ⟨hr, u, hok, hv, hw⟩ | ⟨hr, hv⟩ | ⟨_, h0, _⟩
    · obtain ⟨us, st', h1, m', h2, h3⟩ := vcs_trace hp m rest _ hv
      exact ⟨u :: us, st', ⟨.inl ⟨hr, hok, hw⟩, h1⟩, m', by omega, h3⟩
    · obtain ⟨us, st', h1, m', h2, h3⟩ := vcs_trace hp m rest _ hv
      exact ⟨undU :: us, st', ⟨.inr ⟨hr, rfl⟩, h1⟩, m', by omega, h3⟩
    · exact absurd h0 hp

abbrev tt : Nat → Bool := fun _ => true

theorem put_T (st : St) (d : Option Nat) (u : Upd) : (st.put d u).T = setT st.t.length st.T d u.r := by
  funext i
  simp only [St.T, St.put, setd_getD, setT]

theorem TrL_at {N : Nat} {all : List Oper} {us0 : List Upd} {T0 : Nat → AV} {M0 : MemF} {n0 : Nat} : ∀ (rest : List Oper) (us : List Upd) (i : Nat) (st st' : St), TrL P sb all rest us st st' → all.drop i = rest → us0.drop i = us →
    st.T = TS N all us0 tt T0 i → st.m.get = MS us0 tt M0 i → st.n = n0 + 4 * i → st.t.length = N →
    (∀ j o, i ≤ j → all[j]? = some o → ∃ stj : St, stj.T = TS N all us0 tt T0 j ∧ stj.m.get = MS us0 tt M0 j ∧ stj.n = n0 + 4 * j ∧ StepF P sb all stj o (us0.getD j undU)) ∧
      st'.T = TS N all us0 tt T0 (i + rest.length) ∧ st'.m.get = MS us0 tt M0 (i + rest.length) ∧ st'.n = n0 + 4 * (i + rest.length) ∧ st'.t.length = N
  | [], [], i, st, st', h, h1, h2, h3, h4, h5, h6 => by
    have h : st' = st := h
    subst h
    refine ⟨fun j o hj ho => ?_, h3, h4, h5, h6⟩
    have := (List.getElem?_eq_some_iff.1 ho).1
    have hl := congrArg List.length h1
    simp at hl
    omega
  | o :: rest, u :: us, i, st, st', h, h1, h2, h3, h4, h5, h6 => by
    have ho : all[i]? = some o := by have := congrArg (fun l => l[0]?) h1; simpa using this
    have hu : us0[i]? = some u := by have := congrArg (fun l => l[0]?) h2; simpa using this
    have hug : us0.getD i undU = u := by simp [List.getD_eq_getElem?_getD, hu]
    have hg : gslot all i = o.dst := by simp [gslot, ho]
    have d1 : all.drop (i + 1) = rest := by rw [← List.drop_drop, h1]; rfl
    have d2 : us0.drop (i + 1) = us := by rw [← List.drop_drop, h2]; rfl
    obtain ⟨ih1, ih2, ih3, ih4, ih5⟩ := TrL_at (N := N) (T0 := T0) (M0 := M0) (n0 := n0) rest us (i + 1) (st.put o.dst u) st' h.2 d1 d2
      (by rw [put_T, h3, h6]; simp only [TS, tt, if_true, hg, hug])
      (by rw [get_put, h4]; simp only [MS, tt, if_true, hug])
      (by simp only [St.put]; omega) (by simp only [St.put, setd_length, h6])
    have e : i + 1 + rest.length = i + (o :: rest).length := by simp; omega
    rw [e] at ih2 ih3 ih4
    refine ⟨fun j o' hj ho' => ?_, ih2, ih3, ih4, ih5⟩
    by_cases hji : j = i
    · subst hji
      rw [ho] at ho'
      simp only [Option.some.injEq] at ho'
      subst ho'
      exact ⟨st, h3, h4, h5, by rw [hug]; exact h.1⟩
    · exact ih1 j o' (by omega) ho'
  | [], _ :: _, _, _, _, h, _, _, _, _, _, _ => h.elim
  | _ :: _, [], _, _, _, h, _, _, _, _, _, _ => h.elim

/-! ### what the static look says -/
structure Look (sb : Md) (all : List Oper) : Prop where
  one : ∀ j o, all[j]? = some o → oneOK sb j o ((masks all []).getD j 0) = true
  pair : ∀ i j oi oj, i < j → all[i]? = some oi → all[j]? = some oj → pairOK sb all (((masks all []).getD j 0).testBit i) oi oj = true
theorem look_of {all : List Oper} (h : orderOK sb all = true) : Look sb all := by
  unfold orderOK at h
  rw [List.all_eq_true] at h
  constructor
  · intro j o ho
    have hlt := (List.getElem?_eq_some_iff.1 ho).1
    have := h j (by simpa using hlt)
    rw [ho] at this
    simp only [Bool.and_eq_true] at this
    exact this.1
  · intro i j oi oj hij hi hj
    have hlt := (List.getElem?_eq_some_iff.1 hj).1
    have := h j (by simpa using hlt)
    rw [hj] at this
    simp only [Bool.and_eq_true, List.all_eq_true] at this
    have h2 := this.2 i (by simpa using hij)
    rw [hi] at h2
    exact h2

theorem Look.slots {all : List Oper} (h : Look sb all) {i j : Nat} {oi oj : Oper} (hi : all[i]? = some oi) (hj : all[j]? = some oj) (hne : i ≠ j) : oi.dst = none ∨ oi.dst ≠ oj.dst := by
  rcases Nat.lt_or_gt_of_ne hne with hlt | hlt
  · have hp := h.pair i j oi oj hlt hi hj
    unfold pairOK at hp
    cases hd : oi.dst with
    | none => exact .inl rfl
    | some d =>
      rw [hd] at hp
      simp only [Bool.and_eq_true, bne_iff_ne, ne_eq] at hp
      exact .inr hp.1.2.1
  · have hp := h.pair j i oj oi hlt hj hi
    unfold pairOK at hp
    cases hd : oj.dst with
    | none => cases hd2 : oi.dst with
      | none => exact .inl rfl
      | some d => exact .inr (by simp)
    | some d =>
      rw [hd] at hp
      simp only [Bool.and_eq_true, bne_iff_ne, ne_eq] at hp
      exact .inr (fun e => hp.1.2.1 e.symm)

/-- A writer of a slot that i looks at: ahead of i in the text, then ahead of it in any order; else behind. -/
theorem Look.reads {all : List Oper} (h : Look sb all) {i j : Nat} {oi oj : Oper} (hi : all[i]? = some oi) (hj : all[j]? = some oj) {x : Nat} (hx : oj.dst = some x) (hl : x ∈ oi.looksAt all.toArray) :
    (j < i → befS all j i) ∧ (i < j → befS all i j) := by
  constructor
  · intro hlt
    have hp := h.pair j i oj oi hlt hj hi
    unfold pairOK at hp
    rw [hx] at hp
    simp only [Bool.and_eq_true, Bool.or_eq_true, Bool.not_eq_true'] at hp
    rcases hp.1.2.2 with h' | h'
    · exact h'
    · have : (oi.looksAt all.toArray).contains x = true := by simpa using hl
      rw [this] at h'; cases h'
  · intro hlt
    have hp := h.pair i j oi oj hlt hi hj
    unfold pairOK at hp
    rw [hx] at hp
    simp only [Bool.and_eq_true, Bool.or_eq_true, Bool.not_eq_true'] at hp
    rcases hp.2 with h' | h'
    · exact h'
    · have : (oi.looksAt all.toArray).contains x = true := by simpa using hl
      rw [this] at h'; cases h'

theorem Look.mem {all : List Oper} (h : Look sb all) {i j : Nat} {oi oj : Oper} (hi : all[i]? = some oi) (hj : all[j]? = some oj) (hlt : i < j) (hc : (2 ≤ cls sb oi.op ∧ 1 ≤ cls sb oj.op) ∨ (1 ≤ cls sb oi.op ∧ 2 ≤ cls sb oj.op)) : befS all i j ∨ exc sb all oi oj = true := by
  have hp := h.pair i j oi oj hlt hi hj
  unfold pairOK at hp
  simp only [Bool.and_eq_true, Bool.or_eq_true, Bool.not_eq_true'] at hp
  rcases hp.1.1 with (h' | h') | h'
  · exact .inl h'
  · exfalso
    rcases hc with ⟨h1, h2⟩ | ⟨h1, h2⟩ <;> simp [h1, h2] at h'
  · exact .inr h'

/-! ### the facts of a trace -/
structure Tr (P : Program) (sb : Md) (N : Nat) (all : List Oper) (us : List Upd) (T0 : Nat → AV) (M0 : MemF) (n0 : Nat) : Prop where
  apart : apS T0 (dsOf sb) = true
  look : Look sb all
  step : ∀ j o, all[j]? = some o → ∃ stj : St, stj.T = TS N all us tt T0 j ∧ stj.m.get = MS us tt M0 j ∧ stj.n = n0 + 4 * j ∧ StepF P sb all stj o (us.getD j undU)
  dom : ∀ k, (M0 k).isSome = true → k < n0
  len : us.length = all.length
  live : ∀ x k off, T0 x = .o (.p k off) → k < n0
  far : ∀ x, N ≤ x → T0 x = .o .any

section
variable {N : Nat} {all : List Oper} {us : List Upd} {T0 : Nat → AV} {M0 : MemF} {n0 : Nat}

theorem Tr.nofact (h : Tr P sb N all us T0 M0 n0) (j : Nat) : (∀ k r F, (us.getD j undU).cr.get k ≠ some (.fact r F)) ∧ ∀ k r F, (us.getD j undU).wr.get k ≠ some (.fact r F) := by
  cases ho : all[j]? with
  | none =>
    have hlt : us.length ≤ j := by rw [h.len]; simpa using ho
    rw [List.getD_eq_getElem?_getD, List.getElem?_eq_none hlt]
    exact ⟨nofact_nil, nofact_nil⟩
  | some o =>
    obtain ⟨stj, _, _, hn, hs⟩ := h.step j o ho
    rcases hs with ⟨_, hok, _⟩ | ⟨_, he⟩
    · exact opOK_nofact hok
    · rw [he]; exact ⟨nofact_nil, nofact_nil⟩
theorem Tr.fact0 (h : Tr P sb N all us T0 M0 n0) {S : Nat → Bool} {k : Nat} {r : Bool} {F : World → Prop} : ∀ p, MS us S M0 p k = some (.fact r F) → M0 k = some (.fact r F)
  | 0, hk => hk
  | p + 1, hk => by
    unfold MS at hk
    split at hk
    · obtain ⟨n1, n2⟩ := h.nofact p
      unfold applyM at hk
      cases hcr : (us.getD p undU).cr.get k with
      | some e => rw [hcr] at hk; exact absurd (hcr.trans hk) (n1 k r F)
      | none =>
        rw [hcr] at hk
        cases hm : MS us S M0 p k with
        | none => simp [hm] at hk
        | some e0 =>
          cases hwr : (us.getD p undU).wr.get k with
          | some e1 => simp only [hm, hwr] at hk; exact absurd (hwr.trans hk) (n2 k r F)
          | none =>
            simp only [hm, hwr] at hk
            exact h.fact0 p (hm.trans hk)
    · exact h.fact0 p hk
theorem Tr.fact1 (h : Tr P sb N all us T0 M0 n0) {k : Nat} {r : Bool} {F : World → Prop} (h0 : M0 k = some (.fact r F)) (hid : ∀ j, ((us.getD j undU).cr.get k).isSome = false) : ∀ p, MS us tt M0 p k = some (.fact r F) ∧ ∀ j, j < p → (us.getD j undU).wr.get k = none
  | 0 => ⟨h0, fun _ h => by omega⟩
  | p + 1 => by
    obtain ⟨h1, h2⟩ := h.fact1 h0 hid p
    have hw : (us.getD p undU).wr.get k = none := by
      cases ho : all[p]? with
      | none =>
        have hlt : us.length ≤ p := by rw [h.len]; simpa using ho
        rw [List.getD_eq_getElem?_getD, List.getElem?_eq_none hlt]; rfl
      | some o =>
        obtain ⟨stj, _, hM, _, hs⟩ := h.step p o ho
        rcases hs with ⟨_, hok, _⟩ | ⟨_, he⟩
        · cases hwr : (us.getD p undU).wr.get k with
          | none => rfl
          | some e => exact absurd (by rw [hM]; exact h1) (opOK_factkeep hok k e hwr r F)
        · rw [he]; rfl
    refine ⟨?_, fun j hj => ?_⟩
    · show (if tt p then applyM (MS us tt M0 p) (us.getD p undU) else MS us tt M0 p) k = _
      simp only [tt, if_true]
      have hc : (us.getD p undU).cr.get k = none := by simpa using hid p
      unfold applyM
      rw [hc, h1, hw]
    · rcases Nat.lt_or_ge j p with h3 | h3
      · exact h2 j h3
      · have : j = p := by omega
        rw [this]; exact hw
theorem Tr.fact2 (h : Tr P sb N all us T0 M0 n0) {k : Nat} {r : Bool} {F : World → Prop} (h0 : M0 k = some (.fact r F)) (hid : ∀ j, ((us.getD j undU).cr.get k).isSome = false) (S : Nat → Bool) : ∀ p, MS us S M0 p k = some (.fact r F)
  | 0 => h0
  | p + 1 => by
    have h1 := h.fact2 h0 hid S p
    have hw := (h.fact1 h0 hid (p + 1)).2 p (by omega)
    have hc : (us.getD p undU).cr.get k = none := by simpa using hid p
    unfold MS
    split
    · unfold applyM
      rw [hc, h1, hw]
    · exact h1
theorem Tr.ids (h : Tr P sb N all us T0 M0 n0) {j : Nat} {k : Nat} (hk : ((us.getD j undU).cr.get k).isSome = true) : n0 + 4 * j ≤ k ∧ k < n0 + 4 * j + 4 := by
  cases ho : all[j]? with
  | none =>
    have hlt : us.length ≤ j := by rw [h.len]; simpa using ho
    rw [List.getD_eq_getElem?_getD, List.getElem?_eq_none hlt] at hk
    cases hk
  | some o =>
    obtain ⟨stj, _, _, hn, hs⟩ := h.step j o ho
    rcases hs with ⟨_, hok, _⟩ | ⟨_, he⟩
    · obtain ⟨e, he⟩ := Option.isSome_iff_exists.1 hk
      have := opOK_ids hok k e he
      omega
    · rw [he] at hk; cases hk

theorem Tr.cls_of_touch (h : Tr P sb N all us T0 M0 n0) {j k : Nat} (hk : touch (us.getD j undU) k) : ∃ o, all[j]? = some o ∧ 1 ≤ cls sb o.op ∧ (((us.getD j undU).wr.get k).isSome = true → 2 ≤ cls sb o.op) := by
  cases ho : all[j]? with
  | none =>
    have hlt : us.length ≤ j := by rw [h.len]; simpa using ho
    rw [List.getD_eq_getElem?_getD, List.getElem?_eq_none hlt] at hk
    rcases hk with hk | hk <;> cases hk
  | some o =>
    obtain ⟨stj, _, _, hn, hs⟩ := h.step j o ho
    rcases hs with ⟨_, hok, hw⟩ | ⟨_, he⟩
    · refine ⟨o, rfl, ?_, fun hwk => ?_⟩
      · rcases Nat.eq_zero_or_pos (cls sb o.op) with h0 | h0
        · obtain ⟨e1, e2⟩ := opOK_cls hok h0
          unfold touch at hk
          rw [e1, e2] at hk
          rcases hk with hk | hk <;> cases hk
        · exact h0
      · rcases Nat.lt_or_ge (cls sb o.op) 2 with h2 | h2
        · rcases Nat.eq_zero_or_pos (cls sb o.op) with h0 | h0
          · rw [(opOK_cls hok h0).2] at hwk; cases hwk
          · rw [hw (by omega)] at hwk; cases hwk
        · exact h2
    · rw [he] at hk
      rcases hk with hk | hk <;> cases hk

theorem Tr.slots (h : Tr P sb N all us T0 M0 n0) {i j : Nat} (hne : j ≠ i) : gslot all j = none ∨ gslot all j ≠ gslot all i := by
  cases hj : all[j]? with
  | none => exact .inl (by simp [gslot, hj])
  | some oj =>
    cases hi : all[i]? with
    | none =>
      cases hd : oj.dst with
      | none => exact .inl (by simp [gslot, hj, hd])
      | some d => exact .inr (by simp [gslot, hj, hi, hd])
    | some oi =>
      have := h.look.slots hj hi hne
      simpa [gslot, hj, hi] using this

theorem SM_text {i : Nat} : ∀ j, MS us (fun j => decide (j < i)) M0 (i + j) = MS us tt M0 i
  | 0 => MS_congr i (fun j hj => by simp [hj])
  | j + 1 => by
    have : ¬ i + j < i := by omega
    show MS us _ M0 (i + j + 1) = _
    simp only [MS, this, decide_false]
    exact SM_text j

theorem Tr.T_agree (h : Tr P sb N all us T0 M0 n0) {S : Nat → Bool} (hS : Closed all S) {i : Nat} {oi : Oper} (hi : all[i]? = some oi) (hSi : S i = false) (hready : ∀ e ∈ oi.after.toList, Region.binds .any e = true → S e.on = true)
    {x : Nat} (hx : x ∈ oi.looksAt all.toArray) : TS N all us S T0 all.length x = TS N all us tt T0 i x := by
  have hilt := (List.getElem?_eq_some_iff.1 hi).1
  by_cases hw : ∃ j, j < all.length ∧ gslot all j = some x
  · obtain ⟨j, hjlt, hj⟩ := hw
    have hjo : all[j]? = some all[j] := List.getElem?_eq_getElem hjlt
    have hd : (all[j]).dst = some x := by simpa [gslot, hjo] using hj
    obtain ⟨r1, r2⟩ := h.look.reads hi hjo hd hx
    have hu : ∀ j', j' ≠ j → gslot all j' ≠ some x := by
      intro j' hne e
      rcases h.slots hne with h0 | h0
      · rw [h0] at e; cases e
      · exact h0 (by rw [e, hj])
    rcases Nat.lt_trichotomy j i with hlt | heq | hgt
    · have hSj := bef_closed hS i oi hi j (r1 hlt) hready
      rw [TS_writer hj hSj hu all.length hjlt, TS_writer (S := tt) hj rfl hu i hlt]
    · subst heq
      rw [TS_other all.length, TS_other (S := tt) j]
      · intro j' hj' _ e; exact hu j' (by omega) e
      · intro j' hj' hSj' e
        by_cases hjj : j' = j
        · subst hjj; rw [hSi] at hSj'; cases hSj'
        · exact hu j' hjj e
    · have hSj : S j = false := by
        cases hs : S j with
        | false => rfl
        | true =>
          have := bef_closed hS j _ hjo i (r2 hgt) (hS j _ hjo hs)
          rw [hSi] at this; cases this
      rw [TS_other all.length, TS_other (S := tt) i]
      · intro j' hj' _ e; exact hu j' (by omega) e
      · intro j' hj' hSj' e
        by_cases hjj : j' = j
        · subst hjj; rw [hSj] at hSj'; cases hSj'
        · exact hu j' hjj e
  · have hno : ∀ j, gslot all j ≠ some x := by
      intro j e
      by_cases hjlt : j < all.length
      · exact hw ⟨j, hjlt, e⟩
      · have : all[j]? = none := by simpa using hjlt
        simp [gslot, this] at e
    rw [TS_other all.length (fun j _ _ => hno j), TS_other (S := tt) i (fun j _ _ => hno j)]

theorem load_none {T : Nat → AV} {M : MemF} {id : Nat} {ty : TypeId} {x : Operand} {u : Upd} (h : OpOK P T M id (.load ty x) u) : u.cr = [] ∧ u.wr = [] := by
  unfold OpOK at h
  split at h
  · exact h.elim
  · rename_i c u' he
    obtain ⟨_, rfl⟩ := h
    simp only [opEff] at he
    split at he
    · unfold loadEff hdrLoad at he
      (repeat' split at he) <;> first | (cases he; done) | (simp only [Eff.ok.injEq] at he; obtain ⟨_, rfl⟩ := he; exact ⟨rfl, rfl⟩)
    · cases he
    · cases he
  · obtain ⟨z, _, rfl⟩ := h; exact ⟨rfl, rfl⟩
  · rename_i he; obtain ⟨c, hc, _⟩ := call_spec he; cases hc
  · rename_i he; obtain ⟨c, _, _, hc, _⟩ := clo_spec he; cases hc
  · exact h.elim
  · obtain ⟨z, _, rfl⟩ := h; exact ⟨rfl, rfl⟩
/-- A load touches nothing. -/
theorem Tr.load_no (h : Tr P sb N all us T0 M0 n0) {j k : Nat} {o : Oper} (ho : all[j]? = some o) (hl : oldLoad all o.op = true) : ¬ touch (us.getD j undU) k := by
  intro hk
  obtain ⟨stj, _, _, hn, hs⟩ := h.step j o ho
  rcases hs with ⟨_, hok, _⟩ | ⟨_, he⟩
  · cases hop : o.op with
    | load ty x =>
      rw [hop] at hok
      obtain ⟨e1, e2⟩ := load_none hok
      unfold touch at hk
      rw [e1, e2] at hk
      rcases hk with hk | hk <;> cases hk
    | _ => rw [hop] at hl; cases hl
  · rw [he] at hk
    rcases hk with hk | hk <;> cases hk
theorem storeA_cr {M : MemF} {ty : TypeId} {k off : Nat} {a : A0} {c : Prop} {u : Upd} (h : storeA P M ty k off a = .ok c u) : u.cr = [] := by
  have kref : ∀ q, storeRef P M ty k off q = .ok c u → u.cr = [] := by
    intro q hq
    unfold storeRef at hq
    (repeat' split at hq) <;> first | (cases hq; done) | (simp only [Eff.ok.injEq] at hq; obtain ⟨_, rfl⟩ := hq; rfl)
  cases a <;> simp only [storeA] at h <;> first | exact kref _ h | (cases h; done) | skip
  unfold storeEff at h
  (repeat' split at h) <;> first | (cases h; done) | (simp only [Eff.ok.injEq] at h; obtain ⟨_, rfl⟩ := h; rfl)
theorem storeA_wr {M : MemF} {ty : TypeId} {k off : Nat} {a : A0} {c : Prop} {u : Upd} (h : storeA P M ty k off a = .ok c u) {k' : Nat} (hk : (u.wr.get k').isSome = true) : k' = k := by
  have key : ∀ e : Ent, (Mem.get [(k, e)] k').isSome = true → k' = k := by
    intro e he
    simp only [Mem.get] at he
    split at he
    · rename_i h0; exact h0
    · cases he
  have kref : ∀ q, storeRef P M ty k off q = .ok c u → k' = k := by
    intro q hq
    unfold storeRef at hq
    (repeat' split at hq) <;> first | (cases hq; done) | (simp only [Eff.ok.injEq] at hq; obtain ⟨_, rfl⟩ := hq; exact key _ hk)
  cases a <;> simp only [storeA] at h <;> first | exact kref _ h | (cases h; done) | skip
  unfold storeEff at h
  (repeat' split at h) <;> first | (cases h; done) | (simp only [Eff.ok.injEq] at h; obtain ⟨_, rfl⟩ := h; exact key _ hk)
theorem Tr.edge_slot (h : Tr P sb N all us T0 M0 n0) {j d : Nat} {o oa : Oper} {e : Edge} (ho : all[j]? = some o) (he : e ∈ o.after.toList) (hb : Region.binds .any e = true) (hoa : all[e.on]? = some oa) (hda : oa.dst = some d) :
    TS N all us tt T0 j d = if d < N then (us.getD e.on undU).r else T0 d := by
  have hone := h.look.one j o ho
  unfold oneOK at hone
  simp only [Bool.and_eq_true, List.all_eq_true, Bool.or_eq_true, Bool.not_eq_true', decide_eq_true_eq] at hone
  have hlt : e.on < j := by
    rcases hone.1.2 e he with h' | h'
    · rw [hb] at h'; cases h'
    · exact h'
  have hg : gslot all e.on = some d := by simp [gslot, hoa, hda]
  have hu : ∀ j', j' ≠ e.on → gslot all j' ≠ some d := by
    intro j' hne e1
    rcases h.slots hne with h0 | h0
    · rw [h0] at e1; cases e1
    · exact h0 (by rw [e1, hg])
  exact TS_writer (N := N) (us := us) (T := T0) (S := tt) hg rfl hu j hlt
theorem ok_or {T : Nat → AV} {M : MemF} {id : Nat} {op : Op} {u : Upd} (h : OpOK P T M id op u) : (∃ z, u = val z) ∨ opEff P T M id op ≠ .raw := by
  by_cases he : opEff P T M id op = .raw
  · unfold OpOK at h
    rw [he] at h
    obtain ⟨z, _, h2⟩ := h
    exact .inl ⟨z, h2⟩
  · exact .inr he
theorem ok_of {T : Nat → AV} {M : MemF} {id : Nat} {op : Op} {u : Upd} (h : OpOK P T M id op u) (h1 : ∀ S, opEff P T M id op ≠ .ex S) (h2 : ∀ f args, opEff P T M id op ≠ .call f args) (h3 : ∀ f args, opEff P T M id op ≠ .clo f args) (h4 : opEff P T M id op ≠ .raw) : ∃ c, opEff P T M id op = .ok c u := by
  unfold OpOK at h
  split at h
  · exact h.elim
  · rename_i c u' he; exact ⟨c, by rw [he, h.2]⟩
  · rename_i S he; exact absurd he (h1 S)
  · rename_i f args he; exact absurd he (h2 f args)
  · rename_i f args he; exact absurd he (h3 f args)
  · exact h.elim
  · rename_i he; exact absurd he h4
/-- A store into a box of the region's own, an append to a row of its own write no older entry. -/
theorem Tr.fresh_ge (h : Tr P sb N all us T0 M0 n0) {j k : Nat} {o : Oper} (ho : all[j]? = some o) (hf : freshStore all o = true) (hk : ((us.getD j undU).wr.get k).isSome = true) : n0 ≤ k := by
  obtain ⟨stj, hT, hM, hn, hs⟩ := h.step j o ho
  rcases hs with ⟨_, hok, _⟩ | ⟨_, he⟩
  · unfold freshStore at hf
    split at hf
    · rename_i ty d y hop
      rw [List.any_eq_true] at hf
      obtain ⟨e, he, hb⟩ := hf
      simp only [Bool.and_eq_true] at hb
      obtain ⟨hb1, hb2⟩ := hb
      split at hb2
      · rename_i oa hoa
        simp only [Bool.and_eq_true, beq_iff_eq] at hb2
        obtain ⟨hda, hal⟩ := hb2
        have hw := h.edge_slot ho he hb1 hoa hda
        rw [hop] at hok
        obtain ⟨c, heff⟩ := ok_of hok (fun S h0 => by simp only [opEff] at h0; split at h0 <;> first | cases h0 | exact (show False from storeA_no h0).elim) (fun f args h0 => by obtain ⟨c, hc, _⟩ := call_spec h0; cases hc) (fun f args h0 => by obtain ⟨c, _, _, hc, _⟩ := clo_spec h0; cases hc) (fun h0 => by simp only [opEff] at h0; split at h0 <;> first | cases h0 | exact (show False from storeA_no h0).elim)
        simp only [opEff] at heff
        split at heff
        · rename_i k' off z hx hy
          have hkk := storeA_wr heff hk
          have hx2 : stj.T d = .o (.p k' off) := hx
          rw [hT, hw] at hx2
          split at hx2
          · obtain ⟨sta, _, _, hna, hsa⟩ := h.step e.on oa hoa
            rcases hsa with ⟨_, hoka, _⟩ | ⟨_, hea⟩
            · cases hopa : oa.op with
              | alloc ty' =>
                rw [hopa] at hoka
                obtain ⟨c2, he2⟩ := ok_of hoka (fun S h0 => by simp only [opEff] at h0; split at h0 <;> cases h0) (fun f args h0 => by obtain ⟨c, hc, _⟩ := call_spec h0; cases hc) (fun f args h0 => by obtain ⟨c, _, _, hc, _⟩ := clo_spec h0; cases hc) (fun h0 => by simp only [opEff] at h0; split at h0 <;> cases h0)
                simp only [opEff] at he2
                split at he2
                · simp only [Eff.ok.injEq] at he2
                  rw [← he2.2] at hx2
                  simp only [AV.o.injEq, A0.p.injEq] at hx2
                  rw [hkk]; omega
                · cases he2
              | _ => rw [hopa] at hal; cases hal
            · rw [hea] at hx2; cases hx2
          · rename_i hnr
            rw [h.far d (by omega)] at hx2
            simp at hx2
        · cases heff
      · cases hb2
    · rename_i cl hop
      split at hf
      · rename_i d rest hcal hargs
        rw [List.any_eq_true] at hf
        obtain ⟨e, he, hb⟩ := hf
        simp only [Bool.and_eq_true] at hb
        obtain ⟨hb1, hb2⟩ := hb
        split at hb2
        · rename_i oa hoa
          simp only [Bool.and_eq_true, beq_iff_eq] at hb2
          obtain ⟨hda, hal⟩ := hb2
          have hw := h.edge_slot ho he hb1 hoa hda
          rw [hop] at hok
          obtain ⟨c, heff⟩ := ok_of hok (fun S h0 => by simp only [opEff, hcal] at h0; (repeat' split at h0) <;> cases h0) (fun f args h0 => by simp only [opEff, hcal] at h0; (repeat' split at h0) <;> cases h0) (fun f args h0 => by simp only [opEff, hcal] at h0; (repeat' split at h0) <;> cases h0) (fun h0 => by simp only [opEff, hcal] at h0; (repeat' split at h0) <;> cases h0)
          simp only [opEff, hcal] at heff
          split at heff
          · rename_i x y ty ty' hxs htys
            have hxd : x = .tmp d := by rw [hargs] at hxs; simp only [List.cons.injEq] at hxs; exact hxs.1.symm
            subst hxd
            split at heff
            · split at heff
              · split at heff
                · rename_i k' n' hx
                  have hx2 : stj.T d = .o (.r k' n') := hx
                  split at heff
                  · simp only [Eff.ok.injEq] at heff
                    rw [← heff.2] at hk
                    simp only [Mem.get] at hk
                    have hkk : k = k' := by
                      split at hk
                      · assumption
                      · cases hk
                    rw [hT, hw] at hx2
                    split at hx2
                    · obtain ⟨sta, _, _, hna, hsa⟩ := h.step e.on oa hoa
                      rcases hsa with ⟨_, hoka, _⟩ | ⟨_, hea⟩
                      · cases hopa : oa.op with
                        | buildSlice ty2 len2 parts2 =>
                          rw [hopa] at hoka
                          rcases ok_or hoka with ⟨z, hz⟩ | hr
                          · rw [hz] at hx2; cases hx2
                          obtain ⟨c2, he2⟩ := ok_of hoka (fun S h0 => by simp only [opEff] at h0; (repeat' split at h0) <;> cases h0) (fun f args h0 => by obtain ⟨c, hc, _⟩ := call_spec h0; cases hc) (fun f args h0 => by obtain ⟨c, _, _, hc, _⟩ := clo_spec h0; cases hc) hr
                          simp only [opEff] at he2
                          (repeat' split at he2) <;> first | (cases he2; done) | skip
                          simp only [Eff.ok.injEq] at he2
                          rw [← he2.2] at hx2
                          simp only [AV.o.injEq, A0.r.injEq] at hx2
                          rw [hkk]; omega
                        | _ => rw [hopa] at hal; cases hal
                      · rw [hea] at hx2; cases hx2
                    · rename_i hnr
                      rw [h.far d (by omega)] at hx2
                      simp at hx2
                  · cases heff
                · simp only [Eff.ok.injEq] at heff
                  rw [← heff.2] at hk
                  cases hk
                · cases heff
              · cases heff
            · cases heff
          · cases heff
        · cases hb2
      · cases hf
    · cases hf
  · rw [he] at hk; cases hk
theorem find_dst {all : List Oper} {x : Nat} {o : Oper} (h : dstOp all x = some o) : ∃ j : Nat, all[j]? = some o ∧ o.dst = some x := by
  have h1 := List.find?_some h
  have h2 := List.mem_of_find?_eq_some h
  obtain ⟨j, hj⟩ := List.getElem?_of_mem h2
  exact ⟨j, hj, by simpa using h1⟩
/-- A pointer from ahead of the region names an older entry. -/
theorem Tr.old_lt (h : Tr P sb N all us T0 M0 n0) : ∀ (f x i k off : Nat), oldSlot all f x = true → TS N all us tt T0 i x = .o (.p k off) → k < n0
  | 0, _, _, _, _, hf, _ => by cases hf
  | f + 1, x, i, k, off, hf, hx => by
    unfold oldSlot at hf
    split at hf
    · rename_i hd
      have hno : ∀ j, gslot all j ≠ some x := by
        intro j e
        cases ho : all[j]? with
        | none => simp [gslot, ho] at e
        | some o =>
          have e1 : o.dst = some x := by simpa [gslot, ho] using e
          unfold dstOp at hd
          rw [List.find?_eq_none] at hd
          exact hd o (List.mem_of_getElem? ho) (by simp [e1])
      rw [TS_other (S := tt) i (fun j _ _ => hno j)] at hx
      exact h.live x k off hx
    · rename_i o hd
      obtain ⟨j, ho, hdst⟩ := find_dst hd
      have hg : gslot all j = some x := by simp [gslot, ho, hdst]
      have hu : ∀ j', j' ≠ j → gslot all j' ≠ some x := by
        intro j' hne e1
        rcases h.slots hne with h0 | h0
        · rw [h0] at e1; cases e1
        · exact h0 (by rw [e1, hg])
      split at hf
      · rename_i ty y fld hop
        rcases Nat.lt_or_ge j i with hlt | hge
        · rw [TS_writer (S := tt) hg rfl hu i hlt] at hx
          split at hx
          · obtain ⟨stj, hT, _, hn, hs⟩ := h.step j o ho
            rcases hs with ⟨_, hok, _⟩ | ⟨_, he⟩
            · rw [hop] at hok
              unfold OpOK at hok
              split at hok
              · exact hok.elim
              · rename_i c u' heff
                obtain ⟨_, hu'⟩ := hok
                simp only [opEff] at heff
                split at heff
                · rename_i k' off' d s hy hfl
                  simp only [Eff.ok.injEq] at heff
                  obtain ⟨_, rfl⟩ := heff
                  rw [hu'] at hx
                  simp only [AV.o.injEq, A0.p.injEq] at hx
                  have hy2 : stj.T y = .o (.p k' off') := hy
                  rw [hT] at hy2
                  rw [← hx.1]
                  exact Tr.old_lt h f y j k' off' hf hy2
                · cases heff
              · rename_i S0 h0; simp only [opEff] at h0; split at h0 <;> cases h0
              · rename_i h0; obtain ⟨c, hc, _⟩ := call_spec h0; cases hc
              · rename_i h0; obtain ⟨c, _, _, hc, _⟩ := clo_spec h0; cases hc
              · exact hok.elim
              · rename_i h0; simp only [opEff] at h0; split at h0 <;> cases h0
            · rw [he] at hx; cases hx
          · exact h.live x k off hx
        · rw [TS_other (S := tt) i (fun j' hj' _ => hu j' (by omega))] at hx
          exact h.live x k off hx
      · cases hf

theorem Tr.none_T (h : Tr P sb N all us T0 M0 n0) {x : Nat} (hd : (dstOp all x).isNone = true) (i : Nat) : TS N all us tt T0 i x = T0 x := by
  have hd : dstOp all x = none := Option.isNone_iff_eq_none.1 hd
  have hno : ∀ j, gslot all j ≠ some x := by
    intro j e
    cases ho : all[j]? with
    | none => simp [gslot, ho] at e
    | some o =>
      have e1 : o.dst = some x := by simpa [gslot, ho] using e
      unfold dstOp at hd
      rw [List.find?_eq_none] at hd
      exact hd o (List.mem_of_getElem? ho) (by simp [e1])
  exact TS_other (S := tt) i (fun j _ _ => hno j)
theorem Tr.ap_key (h : Tr P sb N all us T0 M0 n0) {j k x : Nat} {oj : Oper} (hj : all[j]? = some oj) (hp : ptrOf oj.op = some x) (hd : (dstOp all x).isNone = true) (hk : touch (us.getD j undU) k) : ∃ off, T0 x = .o (.p k off) := by
  obtain ⟨stj, hT, hM, hn, hs⟩ := h.step j oj hj
  rcases hs with ⟨_, hok, _⟩ | ⟨_, he⟩
  · unfold ptrOf at hp
    split at hp
    · rename_i ty x' hop
      rw [hop] at hok
      obtain ⟨e1, e2⟩ := load_none hok
      unfold touch at hk
      rw [e1, e2] at hk
      rcases hk with hk | hk <;> cases hk
    · rename_i ty d z hop
      simp only [Option.some.injEq] at hp
      subst hp
      rw [hop] at hok
      obtain ⟨c, heff⟩ := ok_of hok (fun S h0 => by simp only [opEff] at h0; split at h0 <;> first | cases h0 | exact (show False from storeA_no h0).elim) (fun f args h0 => by obtain ⟨c, hc, _⟩ := call_spec h0; cases hc) (fun f args h0 => by obtain ⟨c, _, _, hc, _⟩ := clo_spec h0; cases hc) (fun h0 => by simp only [opEff] at h0; split at h0 <;> first | cases h0 | exact (show False from storeA_no h0).elim)
      simp only [opEff] at heff
      split at heff
      · rename_i k' off' zz hxx hyy
        have hw : ((us.getD j undU).wr.get k).isSome = true := by
          rcases hk with hk | hk
          · rw [storeA_cr heff] at hk; cases hk
          · exact hk
        have hkk := storeA_wr heff hw
        have hx2 : stj.T d = .o (.p k' off') := hxx
        rw [hT, h.none_T hd] at hx2
        exact ⟨off', by rw [hx2, hkk]⟩
      · cases heff
    · cases hp
  · rw [he] at hk
    rcases hk with hk | hk <;> cases hk
theorem Tr.ap_ne (h : Tr P sb N all us T0 M0 n0) {oa ob : Oper} (hx : apX all (dsOf sb) oa ob = true) : ∃ x y, ptrOf oa.op = some x ∧ ptrOf ob.op = some y ∧ (dstOp all x).isNone = true ∧ (dstOp all y).isNone = true ∧ ∀ k o o', T0 x = .o (.p k o) → T0 y = .o (.p k o') → False := by
  unfold apX at hx
  split at hx
  · rename_i x y hx1 hy1
    simp only [Bool.and_eq_true, List.any_eq_true] at hx
    obtain ⟨⟨hd1, hd2⟩, p, hp, h1, h2⟩ := hx
    have h1 := Nat.eq_of_beq_eq_true h1
    have h2 := Nat.eq_of_beq_eq_true h2
    refine ⟨x, y, hx1, hy1, hd1, hd2, fun k o o' e1 e2 => ?_⟩
    have ha := h.apart
    unfold apS at ha
    rw [List.all_eq_true] at ha
    have hap := ha p hp
    rw [h1, h2, e1, e2] at hap
    simp only [Bool.not_eq_true'] at hap
    rw [Nat.beq_refl] at hap
    cases hap
  · cases hx
theorem Tr.M_agree (h : Tr P sb N all us T0 M0 n0) {S : Nat → Bool} (hS : Closed all S) {i : Nat} {oi : Oper} (hi : all[i]? = some oi) (hSi : S i = false) (hready : ∀ e ∈ oi.after.toList, Region.binds .any e = true → S e.on = true)
    (hc : 1 ≤ cls sb oi.op) : ∀ k e, (oldLoad all oi.op = true → k < n0) → (∀ y, ptrOf oi.op = some y → ∃ off, TS N all us tt T0 i y = .o (.p k off)) → MS us tt M0 i k = some e → (MS us S M0 all.length k).isSome = true → MS us S M0 all.length k = some e := by
  intro k e hko hko2 he hsome
  have noexc : ∀ {j : Nat} {oj : Oper}, all[j]? = some oj → 2 ≤ cls sb oj.op → ((us.getD j undU).wr.get k).isSome = true → (exc sb all oj oi = true ∨ exc sb all oi oj = true) → False := by
    intro j oj hj h2 hw hx
    have c1 : freshStore all oj = true → oldLoad all oi.op = true → False := fun f1 f2 => by
      have := h.fresh_ge hj f1 hw
      have := hko f2
      omega
    have c2 : oldLoad all oj.op = true → False := fun f1 => h.load_no hj f1 (.inr hw)
    have c3 : apX all (dsOf sb) oj oi = true → False := fun f1 => by
      obtain ⟨x, y, h1, h2, h3, h4, h5⟩ := h.ap_ne f1
      obtain ⟨o1, e1⟩ := h.ap_key hj h1 h3 (.inr hw)
      obtain ⟨o2, e2⟩ := hko2 y h2
      rw [h.none_T h4] at e2
      exact h5 k o1 o2 e1 e2
    have c4 : apX all (dsOf sb) oi oj = true → False := fun f1 => by
      obtain ⟨x, y, h1, h2, h3, h4, h5⟩ := h.ap_ne f1
      obtain ⟨o1, e1⟩ := h.ap_key hj h2 h4 (.inr hw)
      obtain ⟨o2, e2⟩ := hko2 x h1
      rw [h.none_T h3] at e2
      exact h5 k o2 o1 e2 e1
    unfold exc at hx
    simp only [Bool.or_eq_true, Bool.and_eq_true] at hx
    rcases hx with (((⟨f1, f2⟩ | ⟨f1, f2⟩) | f1) | f1) | (((⟨f1, f2⟩ | ⟨f1, f2⟩) | f1) | f1)
    · exact c1 f1 f2
    · exact c2 f1
    · exact c3 f1
    · exact c4 f1
    · exact c2 f2
    · exact c1 f2 f1
    · exact c4 f1
    · exact c3 f1
  obtain ⟨e', he'⟩ := Option.isSome_iff_exists.1 hsome
  have hilt := (List.getElem?_eq_some_iff.1 hi).1
  have htext : MS us (fun j => decide (j < i)) M0 all.length k = some e := by
    have := SM_text (us := us) (M0 := M0) (i := i) (all.length - i)
    have e1 : i + (all.length - i) = all.length := by omega
    rw [e1] at this
    rw [this]; exact he
  have := MS_agree (us := us) (M := M0) (S := S) (S' := fun j => decide (j < i)) (k := k) ?_ ?_ all.length e' e he' htext
  · rw [he', this]
  · intro j hw
    obtain ⟨oj, hj, _, h2⟩ := h.cls_of_touch (j := j) (k := k) (.inr hw)
    have h2 := h2 hw
    rcases Nat.lt_trichotomy j i with hlt | heq | hgt
    · simp only [hlt, decide_true]
      exact bef_closed hS i oi hi j ((h.look.mem hj hi hlt (.inl ⟨h2, hc⟩)).resolve_right fun hx => noexc hj h2 hw (.inl hx)) hready
    · subst heq; simp [hSi]
    · have hb := (h.look.mem hi hj hgt (.inr ⟨hc, h2⟩)).resolve_right fun hx => noexc hj h2 hw (.inr hx)
      have : ¬ j < i := by omega
      simp only [this, decide_false]
      cases hs : S j with
      | false => rfl
      | true =>
        have := bef_closed hS j _ hj i hb (hS j _ hj hs)
        rw [hSi] at this; cases this
  · intro j hcr
    have hid := h.ids hcr
    refine ⟨?_, fun j' hcr' => ?_⟩
    · cases hM : M0 k with
      | none => rfl
      | some e0 => have := h.dom k (by rw [hM]; rfl); omega
    · have := h.ids hcr'; omega

theorem Tr.ins (h : Tr P sb N all us T0 M0 n0) {S : Nat → Bool} (hS : Closed all S) {i : Nat} {oi : Oper} (hi : all[i]? = some oi) (hSi : S i = false) :
    TS N all us (ins S i) T0 all.length = setT N (TS N all us S T0 all.length) oi.dst (us.getD i undU).r ∧
    MS us (ins S i) M0 all.length = applyM (MS us S M0 all.length) (us.getD i undU) := by
  have hilt := (List.getElem?_eq_some_iff.1 hi).1
  have hg : gslot all i = oi.dst := by simp [gslot, hi]
  constructor
  · rw [← hg]
    exact (TS_ins hSi (fun j hne => h.slots hne) all.length).2 hilt
  · refine (MS_ins hSi ?_ all.length).2 hilt
    rintro j hij hSj k ⟨h1, h2⟩
    obtain ⟨o1, ho1, c1, w1⟩ := h.cls_of_touch h1
    obtain ⟨o2, ho2, c2, w2⟩ := h.cls_of_touch h2
    have contra : befS all i j → False := by
      intro hb
      have := bef_closed hS j _ ho2 i hb (hS j _ ho2 hSj)
      rw [hSi] at this; cases this
    have noexc : exc sb all o1 o2 = true → False := by
      intro hx
      unfold exc at hx
      simp only [Bool.or_eq_true, Bool.and_eq_true] at hx
      rcases hx with ((⟨_, f2⟩ | ⟨f1, _⟩) | f1) | f1
      · exact h.load_no ho2 f2 h2
      · exact h.load_no ho1 f1 h1
      · obtain ⟨x, y, q1, q2, q3, q4, q5⟩ := h.ap_ne f1
        obtain ⟨p1, e1⟩ := h.ap_key ho1 q1 q3 h1
        obtain ⟨p2, e2⟩ := h.ap_key ho2 q2 q4 h2
        exact q5 k p1 p2 e1 e2
      · obtain ⟨x, y, q1, q2, q3, q4, q5⟩ := h.ap_ne f1
        obtain ⟨p1, e1⟩ := h.ap_key ho2 q1 q3 h2
        obtain ⟨p2, e2⟩ := h.ap_key ho1 q2 q4 h1
        exact q5 k p1 p2 e1 e2
    rcases h1 with h1 | h1
    · rcases h2 with h2 | h2
      · have a1 := h.ids h1
        have a2 := h.ids h2
        omega
      · exact contra ((h.look.mem ho1 ho2 hij (.inr ⟨c1, w2 h2⟩)).resolve_right noexc)
    · exact contra ((h.look.mem ho1 ho2 hij (.inl ⟨w1 h1, c2⟩)).resolve_right noexc)

end
end
end Go.Sx
namespace Go.Sx
section
variable {sb : Md} {P : Program} {Q : St → Prop}

theorem TrL_len {all : List Oper} : ∀ {rest : List Oper} {us : List Upd} {st st' : St}, TrL P sb all rest us st st' → us.length = rest.length
  | [], [], _, _, _ => rfl
  | _ :: _, _ :: _, _, _, h => by simp [TrL_len h.2]
  | [], _ :: _, _, _, h => h.elim
  | _ :: _, [], _, _, h => h.elim

def Lst (listed : Array Bool) : Nat → Bool := fun j => listed.getD j false

theorem Lst_set {listed : Array Bool} {i : Nat} (hi : i < listed.size) : Lst (listed.setIfInBounds i true) = ins (Lst listed) i := by
  funext j
  simp only [Lst, ins]
  by_cases h : j = i
  · subst h; simp [hi]
  · rw [if_neg h, getD_set_ne false (Ne.symm h)]

theorem any_sound (r : Option Nat) {N : Nat} {all : List Oper} {us : List Upd} {T0 : Nat → AV} {M0 : MemF} {n0 : Nat} (h : Tr P sb N all us T0 M0 n0) {w0 : Base} {Q' : Exit → Act → World → Prop}
    (hfin : ∀ ρ a w, SatS w0 ρ (TS N all us tt T0 all.length) (MS us tt M0 all.length) N a w → Q' .normal a w) :
    ∀ (fuel : Nat) (listed : Array Bool) (l : List Nat) (ρ : Nat → Loc) (a : Act) (w : World), listed.size = all.length → Closed all (Lst listed) → l.length ≤ fuel → (∀ j, j < all.length → Lst listed j = false → j ∈ l) →
      SatS w0 ρ (TS N all us (Lst listed) T0 all.length) (MS us (Lst listed) M0 all.length) N a w → wpAnyIn (FW r) 0 P .any all.toArray Q' fuel listed a w := by
  have done : ∀ (listed : Array Bool) (ρ : Nat → Loc) (a : Act) (w : World), listed.size = all.length → SatS w0 ρ (TS N all us (Lst listed) T0 all.length) (MS us (Lst listed) M0 all.length) N a w →
      Region.ready .any all.toArray listed = [] → Q' .normal a w := by
    intro listed ρ a w hsz hs hr
    have hall : ∀ j, j < all.length → Lst listed j = true := by
      intro j
      induction j using Nat.strongRecOn with
      | _ j ih =>
        intro hj
        cases hL : Lst listed j with
        | true => rfl
        | false =>
          exfalso
          have hmem : j ∈ Region.ready .any all.toArray listed := by
            rw [mem_ready]
            refine ⟨?_, all[j], by simp [hj], fun e he hb => ?_⟩
            · have hjs : j < listed.size := by rw [hsz]; exact hj
              simp only [Lst, Array.getD_eq_getD_getElem?, Array.getElem?_eq_getElem hjs, Option.getD_some] at hL ⊢
              exact hL
            · have ho := h.look.one j _ (List.getElem?_eq_getElem hj)
              unfold oneOK at ho
              simp only [Bool.and_eq_true, List.all_eq_true, Bool.or_eq_true, Bool.not_eq_true', decide_eq_true_eq] at ho
              rcases ho.1.2 e (by simpa using he) with h' | h'
              · rw [hb] at h'; cases h'
              · exact ih e.on h' (by omega)
          rw [hr] at hmem
          cases hmem
    rw [TS_congr (S' := tt) all.length (fun j hj => hall j hj), MS_congr (S' := tt) all.length (fun j hj => hall j hj)] at hs
    exact hfin ρ a w hs
  intro fuel
  induction fuel with
  | zero =>
    intro listed l ρ a w hsz hcl hl hcov hs
    have hr : Region.ready .any all.toArray listed = [] := by
      rw [List.eq_nil_iff_forall_not_mem]
      intro i hi
      rw [mem_ready] at hi
      obtain ⟨h1, o, ho, _⟩ := hi
      have hilt : i < all.length := by have := (Array.getElem?_eq_some_iff.1 ho).1; simpa using this
      have hLi : Lst listed i = false := by
        have his : i < listed.size := by rw [hsz]; exact hilt
        simp only [Lst, Array.getD_eq_getD_getElem?, Array.getElem?_eq_getElem his, Option.getD_some] at h1 ⊢
        exact h1
      have := hcov i hilt hLi
      have hln : l = [] := List.eq_nil_of_length_eq_zero (by omega)
      rw [hln] at this
      cases this
    exact ⟨hr, done listed ρ a w hsz hs hr⟩
  | succ fuel ih =>
    intro listed l ρ a w hsz hcl hl hcov hs
    refine ⟨fun hr => done listed ρ a w hsz hs hr, fun i hi => ?_⟩
    rw [mem_ready] at hi
    obtain ⟨h1, oi, hoi, hready⟩ := hi
    have hilt : i < all.length := by have := (Array.getElem?_eq_some_iff.1 hoi).1; simpa using this
    have his : i < listed.size := by rw [hsz]; exact hilt
    have hLi : Lst listed i = false := by
      simp only [Lst, Array.getD_eq_getD_getElem?, Array.getElem?_eq_getElem his, Option.getD_some] at h1 ⊢
      exact h1
    have hoi' : all[i]? = some oi := by simpa using hoi
    have hready' : ∀ e ∈ oi.after.toList, Region.binds .any e = true → Lst listed e.on = true := fun e he hb => hready e (by simpa using he) hb
    have hcl' : Closed all (Lst (listed.setIfInBounds i true)) := by
      rw [Lst_set his]
      intro j o ho hj e he hb
      simp only [ins] at hj ⊢
      split
      · rfl
      · by_cases hji : j = i
        · subst hji
          rw [hoi'] at ho
          simp only [Option.some.injEq] at ho
          subst ho
          exact hready' e he hb
        · simp only [hji, if_false] at hj
          exact hcl j o ho hj e he hb
    have hcov' : ∀ j, j < all.length → Lst (listed.setIfInBounds i true) j = false → j ∈ l.erase i := by
      intro j hj hLj
      rw [Lst_set his] at hLj
      simp only [ins] at hLj
      split at hLj
      · cases hLj
      · rename_i hji
        exact (List.mem_erase_of_ne hji).2 (hcov j hj hLj)
    have hlen' : (l.erase i).length ≤ fuel := by
      rw [List.length_erase_of_mem (hcov i hilt hLi)]
      have : 0 < l.length := List.length_pos_of_mem (hcov i hilt hLi)
      omega
    obtain ⟨e1, e2⟩ := h.ins hcl hoi' hLi
    have next : ∀ ρ' a' w', SatS w0 ρ' (TS N all us (ins (Lst listed) i) T0 all.length) (MS us (ins (Lst listed) i) M0 all.length) N a' w' → wpAnyIn (FW r) 0 P .any all.toArray Q' fuel (listed.setIfInBounds i true) a' w' := by
      intro ρ' a' w' hs'
      refine ih _ (l.erase i) ρ' a' w' (by simpa using hsz) hcl' hlen' hcov' ?_
      rw [Lst_set his]
      exact hs'
    obtain ⟨sti, hT, hM, hn, hstep⟩ := h.step i oi hoi'
    have hgs : ∀ g want, oi.guard = some (g, want) → ∀ s, gslot all g = some s → TS N all us (Lst listed) T0 all.length s = sti.T s := by
      intro g want hg s hsl
      rw [hT]
      refine h.T_agree hcl hoi' hLi hready' ?_
      unfold Oper.looksAt
      rw [hg]
      simp only [List.mem_append, Option.mem_toList]
      exact .inr (by simpa [gslot] using hsl)
    unfold wpOpIn
    rw [hoi]
    simp only []
    have put_sat : ∀ {ρ' : Nat → Loc} {y : Value} {w' : World}, (∀ k, Out (n0 + 4 * i) k → ρ' k = ρ k) → SatM w0 ρ' (applyM (MS us (Lst listed) M0 all.length) (us.getD i undU)) w' → Fr w0.w w' w0.own →
        Den ρ' (applyM (MS us (Lst listed) M0 all.length) (us.getD i undU)) (us.getD i undU).r y → SatS w0 ρ' (TS N all us (ins (Lst listed) i) T0 all.length) (MS us (ins (Lst listed) i) M0 all.length) N (a.put oi.dst y) w' := by
      intro ρ' y w' hρ hm hb hd
      rw [e1, e2]
      refine ⟨hb, hm, fun x => ?_, ?_, ?_⟩
      · rw [put_tmps, hs.size]
        simp only [setT]
        split
        · exact hd
        · refine (hs.slot x).mono fun k hk => ⟨live_applyM hk, hρ k ?_⟩
          rcases MS_dom all.length hk with hk | ⟨j, hj, hSj, hcr⟩
          · exact .inl (by have := h.dom k hk; omega)
          · have hid := h.ids hcr
            have hne : j ≠ i := by intro e; subst e; rw [hLi] at hSj; cases hSj
            unfold Out
            omega
      · rw [← hs.size]; cases oi.dst <;> simp [Act.put]
      · cases oi.dst <;> simp [Act.put, hs.defers]
    rcases hstep with ⟨hr, hok, hw⟩ | ⟨hr, hu⟩
    · have hwanted : Region.wanted oi (yielded all.toArray a.tmps) = true := by
        rcases hr with hg | ⟨j, want, s, hg, hsl, hb⟩
        · simp [Region.wanted, hg]
        · have := hgs j want hg s hsl
          simp [Region.wanted, hg, yielded_of hs hsl (this.trans hb)]
      rw [if_pos hwanted]
      have hone := h.look.one i oi hoi'
      unfold oneOK at hone
      simp only [Bool.and_eq_true, bne_iff_ne, ne_eq] at hone
      have hlook : ∀ x ∈ oi.op.operands.toList, ev (TS N all us (Lst listed) T0 all.length) x = ev sti.T x := by
        intro x hx
        cases x with
        | tmp t =>
          simp only [ev]
          rw [hT]
          refine h.T_agree hcl hoi' hLi hready' ?_
          unfold Oper.looksAt
          simp only [List.mem_append, List.mem_filterMap]
          exact .inl ⟨.tmp t, hx, rfl⟩
        | _ => rfl
      have hok' : OpOK P (TS N all us (Lst listed) T0 all.length) (MS us (Lst listed) M0 all.length) sti.n oi.op (us.getD i undU) := by
        refine opOK_local (sb := sb) hok hs hlook (fun hc k e hl hl2 hk hsome => ?_) (fun k r F hk => by
          have h0 := h.fact0 i (by rw [← hM]; exact hk)
          refine h.fact2 h0 (fun j => ?_) _ _
          have hlt := h.dom k (by rw [h0]; rfl)
          cases hc : ((us.getD j undU).cr.get k).isSome with
          | false => rfl
          | true => have := h.ids hc; omega)
        rw [hM] at hk
        refine h.M_agree hcl hoi' hLi hready' hc k e (fun ho => ?_) (fun y hpt => by
          have hx2 : ∃ off, sti.T y = .o (.p k off) := by
            unfold ptrOf at hpt
            split at hpt
            · rename_i ty x hop
              simp only [Option.some.injEq] at hpt; subst hpt
              exact hl ty _ hop
            · rename_i ty x z hop
              simp only [Option.some.injEq] at hpt; subst hpt
              exact hl2 ty _ z hop
            · cases hpt
          rw [hT] at hx2
          exact hx2) hk hsome
        unfold oldLoad at ho
        split at ho
        · rename_i ty x hop
          obtain ⟨off, hx⟩ := hl ty _ hop
          have hx2 : sti.T x = .o (.p k off) := hx
          rw [hT] at hx2
          exact h.old_lt 8 x i k off ho hx2
        · cases ho
      refine oper_in r (opOK_nodefer hok') ?_
      refine op_sound hs (id := sti.n) ?_ rfl hok' ?_
      · intro k hk
        rw [hn]
        rcases MS_dom all.length hk with hk | ⟨j, hj, hSj, hcr⟩
        · exact .inl (by have := h.dom k hk; omega)
        · have hid := h.ids hcr
          have hne : j ≠ i := by intro e; subst e; rw [hLi] at hSj; cases hSj
          unfold Out
          omega
      · intro y w' ρ' g1 g2 g3 g4
        exact next _ _ _ (put_sat (fun k hk => g1 k (by rw [hn]; exact hk)) g2 g3 g4)
    · have hskip : Region.wanted oi (yielded all.toArray a.tmps) = false := by
        obtain ⟨j, want, s, hg, hsl, hb | hb⟩ := hr
        · have := hgs j want hg s hsl
          simp [Region.wanted, hg, yielded_of hs hsl (this.trans hb)]
        · have := hgs j want hg s hsl
          simp [Region.wanted, hg, yielded_none hs hsl (this.trans hb)]
      rw [if_neg (by rw [hskip]; simp)]
      refine ⟨fun _ _ => trivial, ?_⟩
      refine next ρ _ _ (put_sat (fun _ _ => rfl) ?_ hs.below ?_)
      · rw [hu, undU, applyM_nil]; exact hs.mem
      · rw [hu, undU, applyM_nil]; exact rfl

/-- One draw more. -/
theorem SatS.drew {w0 : Base} {ρ : Nat → Loc} {T : Nat → AV} {M : MemF} {N : Nat} {a : Act} {w : World} (h : SatS w0 ρ T M N a w) : SatS w0 ρ T M N a { w with drawn := w.drawn + 1 } := by
  refine ⟨h.below.drew, ⟨fun k e hk => ?_, h.mem.hdr, h.mem.sav, h.mem.apart, h.mem.fct⟩, h.slot, h.size, h.defers⟩
  exact (h.mem.ent k e hk).frame (bs := fun _ => False) ⟨rfl, rfl, rfl, Nat.le_refl _, Nat.le_succ _, fun _ _ _ => rfl⟩ (fun _ _ x => x)

theorem region_sound {all : List Oper} {k : List Frm} {n : Nat} (hm : P.follows .mixedOrders = true) (ih : ∀ m, m < n → ∀ st, vcs P Q m k st → (SVX P Q k).1 st) {rid : Nat} {ops : Array Oper} (hops : ops.toList = all) (hlook : orderOK sb all = true) (hp : sb ≠ .plain)
    {st : St} (hap : apS st.T (dsOf sb) = true) (h : vcs P Q n (.ops sb all all :: k) st) {g : Base} {ρ : Nat → Loc} {a : Act} {w : World} (r : Option Nat) (hs : SatN g ρ st a w) : (Code.region rid ops true).wpIn (FW r) 0 P (PostS P Q g k) a w := by
  obtain ⟨us, st', htr, m', hm', hv⟩ := vcs_trace hp n all st h
  obtain ⟨w0, hx, hs⟩ := hs
  have hlen := TrL_len htr
  obtain ⟨f1, f2, f3, f4, f5⟩ := TrL_at (N := st.t.length) (T0 := st.T) (M0 := st.m.get) (n0 := st.n) all us 0 st st' htr rfl rfl rfl rfl (by omega) rfl
  simp only [Nat.zero_add] at f2 f3 f4
  have hT : Tr P sb st.t.length all us st.T st.m.get st.n := ⟨hap, look_of hlook, fun j o ho => f1 j o (Nat.zero_le _) ho, hs.2, hlen, fun x k off hx => hs.2 k (by have hd := hs.1.slot x; rw [hx] at hd; exact hd.1), fun x hx => by simp [St.T, List.getD, List.getElem?_eq_none hx]⟩
  refine wpIn_region_any hm ?_
  have hops' : ops = all.toArray := by rw [← hops]
  rw [hops']
  have hempty : ∀ j, Lst (Array.replicate all.toArray.size false) j = false := by intro j; simp [Lst, Array.getElem?_replicate]; split <;> simp
  refine any_sound r hT (w0 := w0) (Q' := PostS P Q g k) ?_ all.toArray.size _ (List.range all.length) ρ a _ (by simp) ?_ (by simp) (fun j hj _ => by simpa using hj) ?_
  · intro ρ' a' w' hs'
    refine ⟨ρ', st', ⟨w0, hx, ?_, ?_⟩, ih m' hm' st' hv⟩
    · rw [f2, f3, f5]; exact hs'
    · intro j hj
      rw [f3] at hj
      rw [f4]
      rcases MS_dom all.length hj with h1 | ⟨j', h1, _, h3⟩
      · have := hs.2 j h1; omega
      · have := hT.ids h3; omega
  · intro j o _ hj
    rw [hempty] at hj
    cases hj
  · have e1 : TS st.t.length all us (Lst (Array.replicate all.toArray.size false)) st.T all.length = st.T := by
      funext x
      exact TS_other all.length (fun j _ hj => by rw [hempty] at hj; cases hj)
    have e2 : ∀ p, MS us (Lst (Array.replicate all.toArray.size false)) st.m.get p = st.m.get := by
      intro p
      induction p with
      | zero => rfl
      | succ p ihp => simp only [MS]; rw [hempty]; exact ihp
    rw [e1, e2]
    exact hs.1.drew

theorem SVX_code (k : List Frm) (c : Code) (st : St) : (SVX P Q (.code c :: k)).1 st = ∀ r g ρ a w, SatN g ρ st a w → c.wpIn (FW r) 0 P (PostS P Q g k) a w := by
  apply propext
  constructor
  · intro h r g ρ a w hs
    refine wpIn_mono (h r g ρ a w hs) ?_
    rintro e a' w' ⟨ρ', st', h1, h3⟩
    exact ⟨ρ', st', h1, by cases e <;> exact h3⟩
  · intro h r g ρ a w h1
    refine wpIn_mono (h r g ρ a w h1) ?_
    rintro e a' w' ⟨ρ', st', h1, h3⟩
    exact ⟨ρ', st', h1, by cases e <;> exact h3⟩

def noOps : List Frm → Prop
  | [] => True
  | .ops _ _ _ :: _ => False
  | _ :: k => noOps k
theorem noOps_pop : ∀ {k k' : List Frm} {id : Nat}, noOps k → pop k id = some k' → noOps k'
  | [], _, _, _, h => by simp [pop] at h
  | .block j :: k, k', id, hn, h => by
    simp only [pop] at h
    split at h
    · simp only [Option.some.injEq] at h; subst h; exact hn
    · exact noOps_pop (k := k) hn h
  | .stop _ :: k, _, _, hn, h => noOps_pop (k := k) hn h
  | .code _ :: k, _, _, hn, h => noOps_pop (k := k) hn h
  | .ops _ _ _ :: _, _, _, hn, _ => hn.elim

/-- What is shown of a stack holds of it. -/
theorem vcs_sound (hm : P.follows .mixedOrders = true) : ∀ (n : Nat) (k : List Frm) (st : St), noOps k → vcs P Q n k st → (SVX P Q k).1 st := by
  intro n
  induction n using Nat.strongRecOn with
  | _ n ih =>
    intro k st hno h
    cases n with
    | zero => exact h.elim
    | succ n =>
      have ih' : ∀ m, m < n + 1 → ∀ k, noOps k → ∀ st, vcs P Q m k st → (SVX P Q k).1 st := fun m hm k hk st hv => ih m hm k st hk hv
      cases k with
      | nil => exact h
      | cons f k =>
        cases f with
        | stop K => exact h
        | ops dr all rest => exact hno.elim
        | block j => exact ih' n (by omega) k hno st h
        | code c =>
          have hno' : noOps k := hno
          rw [SVX_code]
          intro r g ρ a w hs
          cases c with
          | skip => exact wpIn_skip ⟨ρ, st, hs, ih' n (by omega) k hno' st h⟩
          | ret => exact wpIn_ret ⟨ρ, st, hs, h⟩
          | exit id =>
            refine wpIn_exit ⟨ρ, st, hs, ?_⟩
            simp only [vcs] at h
            split at h
            · rename_i k' hk'
              exact pop_SVX hk' (ih' n (by omega) k' (noOps_pop hno' hk') st h)
            · exact h.elim
          | loop c =>
            have h : LoopVC P Q c k st := h
            unfold LoopVC at h
            rw [SVX_code] at h
            exact h r g ρ a w hs
          | rangeFunc gf ps x y =>
            have h : CodeVC P Q (.rangeFunc gf ps x y) k st := h
            unfold CodeVC at h
            rw [SVX_code] at h
            exact h r g ρ a w hs
          | block id c =>
            have h : vcs P Q n (.code c :: .block id :: k) st := h
            have h1 := ih' n (by omega) (.code c :: .block id :: k) hno' st h
            rw [SVX_code] at h1
            refine wpIn_block (wpIn_mono (h1 r g ρ a w hs) ?_)
            rintro e a' w' ⟨ρ', st', hs', he⟩
            cases e with
            | normal => exact ⟨ρ', st', hs', he⟩
            | exit id' =>
              simp only [Exit.inBlock]
              have he : if id' = id then (SVX P Q k).1 st' else (SVX P Q k).2 id' st' := he
              by_cases hid : id' = id
              · simp only [hid, if_true] at he ⊢
                exact ⟨ρ', st', hs', he⟩
              · simp only [hid, if_false] at he ⊢
                exact ⟨ρ', st', hs', he⟩
            | ret => exact ⟨ρ', st', hs', he⟩
            | _ => exact he.elim
          | seq x y =>
            have h : vcs P Q n (.code x :: .code y :: k) st := h
            have h1 := ih' n (by omega) (.code x :: .code y :: k) hno' st h
            rw [SVX_code] at h1
            refine wpIn_seq (wpIn_mono (h1 r g ρ a w hs) ?_)
            rintro e a' w' ⟨ρ', st', hs', he⟩
            cases e with
            | normal =>
              have he : (SVX P Q (.code y :: k)).1 st' := he
              rw [SVX_code] at he
              exact he r g ρ' a' w' hs'
            | exit id' => exact ⟨ρ', st', hs', he⟩
            | ret => exact ⟨ρ', st', hs', he⟩
            | _ => exact he.elim
          | cond c x y =>
            simp only [vcs] at h
            split at h
            · rename_i t hc
              have hev := (let ⟨_, _, hs'⟩ := hs; hs'.1.evv hc)
              refine wpIn_cond_split hev (fun ht => ?_) (fun ht => ?_)
              · have h1 := ih' n (by omega) (.code x :: k) hno' st (h.1 ht)
                rw [SVX_code] at h1
                exact h1 r g ρ a w hs
              · have h1 := ih' n (by omega) (.code y :: k) hno' st (h.2 ht)
                rw [SVX_code] at h1
                exact h1 r g ρ a w hs
            · exact h.elim
          | region rid ops dr =>
            cases dr with
            | false =>
              simp only [vcs] at h
              refine wpIn_region_list ?_
              have := ops_sound (P := P) (Q := Q) (all := ops.toList) (k := k) (g := g) r n (fun m hm st hv => ih' m (by omega) k hno' st hv) n (Nat.le_refl _) ops.toList st ρ a w h hs
              simpa using this
            | true =>
              simp only [vcs] at h
              rcases h with ⟨md, hmd, hap, hlook, hv⟩ | h
              rotate_left
              · have h := h rid ops rfl
                unfold CodeVC at h
                rw [SVX_code] at h
                exact h r g ρ a w hs
              exact region_sound hm (fun m hm st hv => ih' m (by omega) k hno' st hv) rfl hlook hmd hap hv r hs
          | _ => simp only [vcs] at h

end
end Go.Sx
namespace Go.Sx

/-! ### the machine, hidden from the kernel -/
theorem hid_ex.{u} {α : Sort u} (a : α) : ∃ b : α, b = a := ⟨a, rfl⟩
noncomputable def hid.{u} {α : Sort u} (a : α) : α := Classical.choose (hid_ex a)
theorem hid_eq.{u} {α : Sort u} (a : α) : hid a = a := Classical.choose_spec (hid_ex a)
noncomputable def vcx (P : Program) (Q : St → Prop) (n : Nat) (k : List Frm) (st : St) : Prop := hid (@vcs P Q) n k st
theorem vcx_eq {P : Program} {Q : St → Prop} {n : Nat} {k : List Frm} {st : St} : vcx P Q n k st = vcs P Q n k st := by unfold vcx; rw [hid_eq]
noncomputable def LoopX (P : Program) (Q : St → Prop) (c : Code) (k : List Frm) (st : St) : Prop := hid (@LoopVC P Q) c k st
noncomputable def CodeX (P : Program) (Q : St → Prop) (c : Code) (k : List Frm) (st : St) : Prop := hid (@CodeVC P Q) c k st
theorem CodeX_eq {P : Program} {Q : St → Prop} {c : Code} {k : List Frm} {st : St} : CodeX P Q c k st = CodeVC P Q c k st := by unfold CodeX; rw [hid_eq]
theorem LoopX_eq {P : Program} {Q : St → Prop} {c : Code} {k : List Frm} {st : St} : LoopX P Q c k st = LoopVC P Q c k st := by unfold LoopX; rw [hid_eq]

section
variable {P : Program} {Q : St → Prop}

/-! ### loops -/
def St.le (s s' : St) : Prop := ∀ w0 ρ a w, SatN w0 ρ s a w → ∃ ρ', SatN w0 ρ' s' a w
theorem St.le_refl (s : St) : St.le s s := fun _ ρ _ _ h => ⟨ρ, h⟩

theorem loop_inv {c : Code} {k : List Frm} {st : St} (hm : P.follows .mixedOrders = true) (hk : noOps k) {γ : Type} (S : γ → St) (G : γ → Prop) (μ : γ → Nat) (g0 : γ) (h0 : G g0) (hle : St.le st (S g0)) (n : Nat)
    (round : ∀ g, G g → vcx P Q n (.code c :: .stop (fun s => ∃ g', G g' ∧ μ g' < μ g ∧ St.le s (S g')) :: k) (S g)) : LoopX P Q c k st := by
  rw [LoopX_eq]
  unfold LoopVC
  rw [SVX_code]
  intro r b ρ a w hs
  obtain ⟨ρ', hs'⟩ := hle b ρ a w hs
  refine wpIn_loop_ghost (fun m a w => ∃ g ρ, G g ∧ μ g = m ∧ SatN b ρ (S g) a w) (μ g0) ⟨g0, ρ', h0, rfl, hs'⟩ ?_
  rintro m a w ⟨g, ρ, hg, rfl, hs⟩
  have hr := round g hg
  rw [vcx_eq] at hr
  have h1 := vcs_sound hm n _ (S g) (by exact hk) hr
  rw [SVX_code] at h1
  refine wpIn_mono (h1 r b ρ a w hs) ?_
  rintro e a' w' ⟨ρ1, s1, hs1, he⟩
  cases e with
  | normal =>
    obtain ⟨g', hg', hlt, hle'⟩ := he
    obtain ⟨ρ2, hs2⟩ := hle' b ρ1 a' w' hs1
    exact ⟨μ g', hlt, g', ρ2, hg', rfl, hs2⟩
  | exit id => exact ⟨ρ1, s1, hs1, he⟩
  | ret => exact ⟨ρ1, s1, hs1, he⟩
  | _ => exact he.elim

def Rounds (P : Program) (Q : St → Prop) (c : Code) (k : List Frm) : Nat → St → Prop
  | 0, _ => False
  | n + 1, st => (SVX P Q (.code c :: .stop (Rounds P Q c k n) :: k)).1 st
noncomputable def RoundsVC (P : Program) (Q : St → Prop) (c : Code) (k : List Frm) (n : Nat) : St → Prop := hid (@Rounds P Q) c k n
theorem RoundsVC_eq {c : Code} {k : List Frm} {n : Nat} : RoundsVC P Q c k n = Rounds P Q c k n := by unfold RoundsVC; rw [hid_eq]

theorem RoundsVC.step {c : Code} {k : List Frm} {st : St} {m : Nat} (hm : P.follows .mixedOrders = true) (hk : noOps k) (n : Nat) (h : vcx P Q n (.code c :: .stop (RoundsVC P Q c k m) :: k) st) : RoundsVC P Q c k (m + 1) st := by
  rw [vcx_eq, RoundsVC_eq] at h
  rw [RoundsVC_eq]
  exact vcs_sound hm n _ st hk h

theorem loop_rounds {c : Code} {k : List Frm} {st : St} (m : Nat) (h : RoundsVC P Q c k m st) : LoopX P Q c k st := by
  rw [LoopX_eq]
  rw [RoundsVC_eq] at h
  unfold LoopVC
  rw [SVX_code]
  intro r g ρ a w hs
  refine wpIn_loop_rounds m ?_
  induction m generalizing st ρ a w with
  | zero => exact h.elim
  | succ m ih =>
    rw [roundsIn_succ]
    have h : (SVX P Q (.code c :: .stop (Rounds P Q c k m) :: k)).1 st := h
    rw [SVX_code] at h
    refine wpIn_mono (h r g ρ a w hs) ?_
    rintro e a' w' ⟨ρ1, s1, hs1, he⟩
    cases e with
    | normal => exact ih he ρ1 a' w' hs1
    | exit id => exact ⟨ρ1, s1, hs1, he⟩
    | ret => exact ⟨ρ1, s1, hs1, he⟩
    | _ => exact he.elim

/-! ### a state told with less -/
def ren : List (Nat × Nat) → Nat → Nat
  | [], k => k
  | (a, b) :: l, k => if k = a then b else ren l k
def A0le (σ : Nat → Nat) (M' : MemF) : A0 → A0 → Prop
  | _, .any => True
  | .v x, .v y => x = y
  | .p k off, .p k' off' => (M' k').isSome = true ∧ k = σ k' ∧ off = off'
  | .s k off len, .s k' off' len' => (M' k').isSome = true ∧ k = σ k' ∧ off = off' ∧ len = len'
  | .r k n, .r k' n' => (M' k').isSome = true ∧ k = σ k' ∧ n = n'
  | .r k n, .s k' off' n' => (M' k').isSome = true ∧ k = σ k' ∧ off' = 0 ∧ n = n'
  | .fn f ks, .fn f' ks' => f = f' ∧ ks = ks'.map σ ∧ ∀ k ∈ ks', (M' k).isSome = true
  | _, _ => False
def Hle (σ : Nat → Nat) (M' : MemF) : List A0 → List A0 → Prop
  | [], [] => True
  | a :: l, b :: l' => A0le σ M' a b ∧ Hle σ M' l l'
  | _, _ => False
def AVle (σ : Nat → Nat) (M' : MemF) : AV → AV → Prop
  | _, .o .any => True
  | .o a, .o b => A0le σ M' a b
  | .t l, .t l' => Hle σ M' l l'
  | _, _ => False
def Tle (σ : Nat → Nat) (M' : MemF) : List AV → List AV → Prop
  | [], [] => True
  | a :: l, b :: l' => AVle σ M' a b ∧ Tle σ M' l l'
  | _, _ => False
def Ele (σ : Nat → Nat) (M' : MemF) : Ent → Ent → Prop
  | _, .dead => True
  | .box cs, .box cs' => cs = cs'
  | .row e s n xs, .row e' s' n' xs' => e = e' ∧ s = s' ∧ n = n' ∧ xs = xs'
  | .box cs, .view _ xs => cs = xs
  | .row _ _ _ ys, .view _ xs => ys = xs
  | .view fr ys, .view fr' xs => ys = xs ∧ (fr' = true → fr = true)
  | .hdr cs, .hdr cs' => Hle σ M' cs cs'
  | .box cs, .hdr cs' => Hle σ M' (cs.map A0.v) cs'
  | .sav j l, .sav j' l' => j = j' ∧ Tle σ M' l l'
  | .fact r F, .fact r' F' => (r' = true → r = true) ∧ ∀ w, F w → F' w
  | _, _ => False
def Mle (σ : Nat → Nat) (M M' : MemF) : Mem → Prop
  | [] => True
  | (k, e') :: m => (match M (σ k) with | some e => Ele σ M' e e' | none => False) ∧ Mle σ M M' m
theorem Hle_len {σ : Nat → Nat} {M' : MemF} : ∀ {l l' : List A0}, Hle σ M' l l' → l.length = l'.length
  | [], [], _ => rfl
  | _ :: _, _ :: _, h => by simp [Hle_len h.2]
  | [], _ :: _, h => h.elim
  | _ :: _, [], h => h.elim
theorem Hle_at {σ : Nat → Nat} {M' : MemF} : ∀ {l l' : List A0} (i : Nat) {b : A0}, Hle σ M' l l' → l'[i]? = some b → ∃ a, l[i]? = some a ∧ A0le σ M' a b
  | a :: l, b :: l', 0, _, h, hb => by simp at hb; subst hb; exact ⟨a, rfl, h.1⟩
  | a :: l, b :: l', i + 1, _, h, hb => by simpa using Hle_at i h.2 (by simpa using hb)
  | [], [], _, _, _, hb => by simp at hb
  | [], _ :: _, _, _, h, _ => h.elim
  | _ :: _, [], _, _, h, _ => h.elim

theorem A0le_den {σ : Nat → Nat} {ρ : Nat → Loc} {M M' : MemF} {a b : A0} {z : Value} (hA : A0le σ M' a b) (hd : Den0 ρ M a z) : Den0 (fun k => ρ (σ k)) M' b z := by
  cases b with
  | any => trivial
  | v q => cases a <;> first | exact hA.elim | (have hA : _ = _ := hA; subst hA; exact hd)
  | p k off => cases a <;> first | exact hA.elim | (obtain ⟨h1, rfl, rfl⟩ := hA; exact ⟨h1, hd.2⟩)
  | s k off len =>
    cases a with
    | s k1 o1 l1 => obtain ⟨h1, rfl, rfl, rfl⟩ := hA; exact ⟨h1, hd.2⟩
    | r k1 n1 =>
      obtain ⟨h1, rfl, rfl, rfl⟩ := hA
      obtain ⟨_, _, o', cap, hz, hle, hor, hnil⟩ := hd
      exact ⟨h1, o', cap, hz, hle, by simpa [Addr.add] using hor, hnil⟩
    | _ => exact hA.elim
  | r k n => cases a <;> first | exact hA.elim | (obtain ⟨h1, rfl, rfl⟩ := hA; exact ⟨h1, hd.2⟩)
  | fn f ks =>
    cases a <;> first | exact hA.elim | skip
    obtain ⟨rfl, rfl, h3⟩ := hA
    refine ⟨h3, ?_⟩
    rw [hd.2, List.map_map]
    rfl
theorem Hle_den {σ : Nat → Nat} {ρ : Nat → Loc} {M M' : MemF} : ∀ {l l' : List A0} {ys : List Value}, Hle σ M' l l' → DenL ρ M l ys → DenL (fun k => ρ (σ k)) M' l' ys
  | [], [], [], _, _ => trivial
  | _ :: _, _ :: _, _ :: _, h, hd => ⟨A0le_den h.1 hd.1, Hle_den h.2 hd.2⟩
  | [], _ :: _, _, h, _ => h.elim
  | _ :: _, [], _, h, _ => h.elim
  | [], [], _ :: _, _, hd => hd.elim
  | _ :: _, _ :: _, [], _, hd => hd.elim
theorem AVle_den {σ : Nat → Nat} {ρ : Nat → Loc} {M M' : MemF} {x y : AV} {z : Value} (hA : AVle σ M' x y) (hd : Den ρ M x z) : Den (fun k => ρ (σ k)) M' y z := by
  cases y with
  | t l => cases x with
    | o a0 => cases a0 <;> exact hA.elim
    | t l =>
      obtain ⟨ys, hz, hd⟩ := hd
      exact ⟨ys, hz, Hle_den hA hd⟩
  | o b =>
    cases x with
    | o a0 =>
      have hA : A0le σ M' a0 b := by cases b <;> first | trivial | exact hA
      exact A0le_den hA hd
    | t l => cases b <;> first | trivial | exact hA.elim

theorem Tle_at {σ : Nat → Nat} {M' : MemF} : ∀ {l l' : List AV} (i : Nat), Tle σ M' l l' → AVle σ M' (l.getD i (.o .any)) (l'.getD i (.o .any))
  | [], [], _, _ => trivial
  | a :: l, b :: l', 0, h => h.1
  | a :: l, b :: l', i + 1, h => by simpa using Tle_at i h.2
  | [], _ :: _, _, h => h.elim
  | _ :: _, [], _, h => h.elim
theorem Tle_len {σ : Nat → Nat} {M' : MemF} : ∀ {l l' : List AV}, Tle σ M' l l' → l.length = l'.length
  | [], [], _ => rfl
  | _ :: _, _ :: _, h => by simp [Tle_len h.2]
  | [], _ :: _, h => h.elim
  | _ :: _, [], h => h.elim
theorem Mle_get {σ : Nat → Nat} {M M' : MemF} : ∀ {m : Mem} {k : Nat} {e' : Ent}, Mle σ M M' m → m.get k = some e' → ∃ e, M (σ k) = some e ∧ Ele σ M' e e'
  | [], _, _, _, h => by cases h
  | (j, e) :: m, k, e', hm, h => by
    simp only [Mem.get] at h
    split at h
    · rename_i hk
      subst hk
      simp only [Option.some.injEq] at h
      subst h
      have h1 := hm.1
      cases hM : M (σ k) with
      | none => simp [hM] at h1
      | some e0 => simp only [hM] at h1; exact ⟨e0, rfl, h1⟩
    · exact Mle_get hm.2 h
theorem mem_keys : ∀ {m : Mem} {k : Nat} {e : Ent}, m.get k = some e → k ∈ m.map Prod.fst
  | [], _, _, h => by cases h
  | (j, e0) :: m, k, e, h => by
    simp only [Mem.get] at h
    split at h
    · rename_i hk; simp [hk]
    · have := mem_keys h; simp only [List.map_cons, List.mem_cons]; exact .inr this

theorem nodup_inj {σ : Nat → Nat} : ∀ {l : List Nat}, (l.map σ).Nodup → ∀ a b, a ∈ l → b ∈ l → a ≠ b → σ a ≠ σ b
  | [], _, _, _, h, _, _ => by cases h
  | x :: l, hn, a, b, ha, hb, hne => by
    simp only [List.map_cons, List.nodup_cons] at hn
    intro e
    rcases List.mem_cons.1 ha with rfl | ha' <;> rcases List.mem_cons.1 hb with rfl | hb'
    · exact hne rfl
    · exact hn.1 (e ▸ List.mem_map.2 ⟨b, hb', rfl⟩)
    · exact hn.1 (e ▸ List.mem_map.2 ⟨a, ha', rfl⟩)
    · exact nodup_inj hn.2 a b ha' hb' hne e

theorem Ele_sat {σ : Nat → Nat} {M' : MemF} {B : Nat → Prop} {l : Loc} {w : World} {e e' : Ent} (h : EntSat B l w e) (hl : Ele σ M' e e') : EntSat B l w e' ∧ (e'.fresh = true → e.fresh = true) ∧ ∀ b, e'.blk l = some b → e.blk l = some b := by
  cases e' with
  | dead => exact ⟨trivial, by simp [Ent.fresh], by simp [blk_dead]⟩
  | box cs' =>
    cases e <;> simp only [Ele] at hl
    subst hl; exact ⟨h, fun _ => rfl, fun b hb => hb⟩
  | row e1 s1 n1 xs1 =>
    cases e <;> simp only [Ele] at hl
    obtain ⟨rfl, rfl, rfl, rfl⟩ := hl; exact ⟨h, fun _ => rfl, fun b hb => hb⟩
  | view fr xs =>
    cases e with
    | box cs =>
      simp only [Ele] at hl
      subst hl
      refine ⟨⟨?_, h.one rfl, ?_⟩, fun _ => rfl, ?_⟩
      · intro j u hj
        exact h.reads rfl (by intro e; subst e; simp at hj) j u hj
      · intro _ hne; obtain ⟨b, ty, cur, ha, hB, _⟩ := h.2 hne; rw [ha]; exact hB
      · intro b hb; exact hb
    | row e1 s1 n1 ys =>
      simp only [Ele] at hl
      subst hl
      have hrow := h
      obtain ⟨h1, h2, h3⟩ := h
      have hfact : ys ≠ [] → ∃ g c, l.v = .slice (some ⟨g, 0, none⟩) n1 c ∧ l.a = ⟨g, 0, none⟩ ∧ B g := by
        intro hne
        rcases h1.2 with ⟨hv, h0⟩ | ⟨g, cap, cur, hv, hg, _⟩
        · subst h0
          have := h1.1
          exact absurd (List.eq_nil_of_length_eq_zero (by simpa using this)) hne
        · exact ⟨g, cap, hv, h2 _ _ _ hv, h3.2 g (by rw [hv]; rfl)⟩
      refine ⟨⟨?_, hrow.one rfl, ?_⟩, fun _ => rfl, ?_⟩
      · intro j u hj
        exact hrow.reads rfl (by intro e; subst e; simp at hj) j u hj
      · intro _ hne
        obtain ⟨g, c, _, ha, hg⟩ := hfact (by intro e; subst e; simp at hne)
        rw [ha]; exact hg
      · intro b hb
        simp only [Ent.blk] at hb
        split at hb
        · cases hb
        · rename_i hne
          obtain ⟨g, c, hv, ha, hg⟩ := hfact (by intro e; subst e; simp at hne)
          rw [ha] at hb
          rw [blk_row, hv]
          exact hb
    | view fr2 ys =>
      simp only [Ele] at hl
      obtain ⟨rfl, hfr⟩ := hl
      obtain ⟨h1, h2, h3⟩ := h
      exact ⟨⟨h1, h2, fun hf => h3 (hfr hf)⟩, hfr, fun b hb => hb⟩
    | _ => simp only [Ele] at hl
  | sav j' l' =>
    cases e <;> simp only [Ele] at hl
    exact ⟨trivial, by simp [Ent.fresh], by simp [Ent.blk]⟩
  | fact rt' F' =>
    cases e <;> simp only [Ele] at hl
    exact ⟨trivial, by simp [Ent.fresh], by simp [Ent.blk]⟩
  | hdr cs' =>
    cases e <;> simp only [Ele] at hl
    · rename_i cs
      have hlen := Hle_len hl
      have hem : cs.isEmpty = cs'.isEmpty := by cases cs <;> cases cs' <;> simp at hlen ⊢
      refine ⟨fun hne => ?_, fun _ => rfl, fun b hb => ?_⟩
      · obtain ⟨b, ty, cur, ha, hB, hh, ht⟩ := h.2 (by rw [hem]; exact hne)
        have := congrArg List.length ht
        simp at this hlen
        exact ⟨b, ty, cur, ha, hB, hh, by omega⟩
      · simp only [Ent.blk] at hb ⊢
        rw [hem]; exact hb
    · rename_i cs
      have hlen := Hle_len hl
      have hem : cs.isEmpty = cs'.isEmpty := by cases cs <;> cases cs' <;> simp at hlen ⊢
      refine ⟨fun hne => ?_, fun _ => rfl, fun b hb => ?_⟩
      · obtain ⟨b, ty, cur, ha, hB, hh, ht⟩ := h (by rw [hem]; exact hne)
        exact ⟨b, ty, cur, ha, hB, hh, by omega⟩
      · simp only [Ent.blk] at hb ⊢
        rw [hem]; exact hb

theorem SatM.le {w0 : Base} {ρ : Nat → Loc} {m m' : Mem} {w : World} (h : SatM w0 ρ m.get w) (σ : Nat → Nat) (hm : Mle σ m.get m'.get m') (hnd : ((m'.map Prod.fst).map σ).Nodup) : SatM w0 (fun k => ρ (σ k)) m'.get w := by
  refine ⟨?_, ?_, ?_, ?_, ?_⟩
  · intro k e' hk
    obtain ⟨e, he, hle⟩ := Mle_get hm hk
    exact (Ele_sat (h.ent _ _ he) hle).1
  · intro k cs' hk j b hj
    obtain ⟨e, he, hle⟩ := Mle_get hm hk
    have hent := h.ent _ _ he
    cases e <;> simp only [Ele] at hle
    · rename_i cs
      obtain ⟨a0, ha0, hA⟩ := Hle_at j hle hj
      rw [List.getElem?_map, Option.map_eq_some_iff] at ha0
      obtain ⟨z, hz, rfl⟩ := ha0
      refine ⟨z, hent.reads rfl (by intro e; subst e; simp at hz) j z hz, hent.one rfl z (List.mem_of_getElem? hz), ?_⟩
      exact A0le_den hA (show Den0 ρ m.get (.v z) z from rfl)
    · rename_i cs
      obtain ⟨a0, ha0, hA⟩ := Hle_at j hle hj
      obtain ⟨y, h1, h2, h3⟩ := h.hdr _ _ he j a0 ha0
      exact ⟨y, h1, h2, A0le_den hA h3⟩
  · intro k j l' hk
    obtain ⟨e, he, hle⟩ := Mle_get hm hk
    cases e <;> simp only [Ele] at hle
    obtain ⟨rfl, hT⟩ := hle
    obtain ⟨h1, h2⟩ := h.sav _ _ _ he
    exact ⟨(Tle_len hT).symm.trans h1, fun i => AVle_den (Tle_at i hT) (h2 i)⟩
  · intro k e' k' e2' hk ho hk' hne
    obtain ⟨e, he, hle⟩ := Mle_get hm hk
    obtain ⟨e2, he2, hle2⟩ := Mle_get hm hk'
    obtain ⟨_, f1, f2⟩ := Ele_sat (h.ent _ _ he) hle
    obtain ⟨_, g1, g2⟩ := Ele_sat (h.ent _ _ he2) hle2
    have o1 := f1 ho
    have hσ := nodup_inj hnd k k' (mem_keys hk) (mem_keys hk') hne
    cases hb1 : e'.blk (ρ (σ k)) with
    | none => exact .inl rfl
    | some b =>
      refine .inr fun hc => ?_
      have c1 := f2 b hb1
      have c2 := g2 b hc.symm
      rcases h.apart _ e _ e2 he o1 he2 hσ with h0 | h0
      · rw [c1] at h0; cases h0
      · exact h0 (by rw [c1, c2])
  · intro k rt F hk w' hw'
    obtain ⟨e, he, hle⟩ := Mle_get hm hk
    cases e <;> simp only [Ele] at hle
    exact hle.2 w' (h.fct _ _ _ he w' (hw'.mono fun b hb => hb.imp (fun x => x) fun h => h.imp (fun ⟨h1, h2⟩ => ⟨hle.1 h1, h2⟩) fun x => x))
theorem St.le_of {s s' : St} (σ : Nat → Nat) (ht : Tle σ s'.m.get s.t s'.t) (hm : Mle σ s.m.get s'.m.get s'.m) (hnd : ((s'.m.map Prod.fst).map σ).Nodup) (hn : ∀ k ∈ s'.m.map Prod.fst, k < s'.n) : St.le s s' := by
  intro g ρ a w ⟨w0, hx, h, hid⟩
  refine ⟨fun k => ρ (σ k), w0, hx, ⟨h.below, h.mem.le σ hm hnd, ?_, by rw [← Tle_len ht]; exact h.size, h.defers⟩, ?_⟩
  · exact fun i => AVle_den (Tle_at i ht) (h.slot i)
  · intro j hj
    obtain ⟨e, he⟩ := Option.isSome_iff_exists.1 hj
    exact hn j (mem_keys he)

end
end Go.Sx
namespace Go.Sx
section
variable {P : Program} {Q : St → Prop}

def noMv : List Arg → Prop
  | [] => True
  | .mv .. :: _ => False
  | .io .. :: _ => False
  | .ib .. :: _ => False
  | _ :: l => noMv l
def argA : Nat → List Arg → List AV
  | _, [] => []
  | i, .val x :: l => .o (.v x) :: argA (i + 1) l
  | i, .fa x _ :: l => .o (.v x) :: argA (i + 1) l
  | i, .sl n _ _ :: l => .o (.s i 0 n) :: argA (i + 1) l
  | i, .mv _ _ n _ :: l => .o (.r i n) :: argA (i + 1) l
  | i, .bx _ :: l => .o (.p i 0) :: argA (i + 1) l
  | i, .io _ _ n _ _ :: l => .o (.r i n) :: argA (i + 1) l
  | i, .ib _ _ :: l => .o (.p i 0) :: argA (i + 1) l
  | i, .fv f :: l => .o (.fn f []) :: argA (i + 1) l
def argE : Nat → List Arg → Mem
  | _, [] => []
  | i, .sl _ _ xs :: l => (i, .view false xs) :: argE (i + 1) l
  | i, .mv e size n xs :: l => (i, .row e size n xs) :: argE (i + 1) l
  | i, .bx xs :: l => (i, .view false xs) :: argE (i + 1) l
  | i, .io e size n xs _ :: l => (i, .row e size n xs) :: argE (i + 1) l
  | i, .ib xs _ :: l => (i, .box xs) :: argE (i + 1) l
  | i, .val _ :: l => argE (i + 1) l
  | i, .fa _ F :: l => (i, .fact true F) :: argE (i + 1) l
  | i, .fv _ :: l => argE (i + 1) l

def resMatch (M : MemF) : AV → Res → Prop
  | .o (.v x), .val y => x = y
  | .o (.v (.slice none 0 0)), .row _ _ n xs => n = 0 ∧ xs = []
  | .o (.r k _), .row e size n xs => M k = some (.row e size n xs)
  | .o (.v (.slice none 0 0)), .view n _ xs => n = 0 ∧ xs = []
  | .o (.r k _), .view n size xs => ∃ e, M k = some (.row e size n xs)
  | .o (.s k off n'), .view n size xs => n' = n ∧ xs.length = n * size ∧ (match M k with | some e => e.fresh = true ∧ (match e.cells with | some cs => (cs.drop off).take (n * size) = xs | none => False) | none => False)
  | .o (.v (.slice none 0 0)), .part n _ xs => n = 0 ∧ xs = []
  | .o (.r k _), .part n size xs => ∃ e, M k = some (.row e size n xs)
  | .o (.s k 0 n'), .part n size xs => n' = n ∧ xs.length = n * size ∧ (match M k with | some e => e.own = true ∧ (match e.cells with | some cs => cs.take (n * size) = xs | none => False) | none => False)
  | .o (.v x), .fa F => ents M true (F x)
  | _, _ => False
def retA (P : Program) (T : Nat → AV) (M : MemF) : ResultVar → Res → Prop
  | .tmp t, r => resMatch M (T t) r
  | .cell t ty, .val x => match T t with
    | .o (.p k off) => match loadEff P M ty k off with
      | .ok c u => c ∧ u = val x
      | _ => False
    | _ => False
  | .cell t ty, .fa F => match T t with
    | .o (.p k off) => match loadEff P M ty k off with
      | .ok c u => c ∧ ∃ x, u = val x ∧ ents M true (F x)
      | _ => False
    | _ => False
  | _, _ => False
def retAll (P : Program) (T : Nat → AV) (M : MemF) : List ResultVar → List Res → Prop
  | [], [] => True
  | v :: l, r :: rs => retA P T M v r ∧ retAll P T M l rs
  | _, _ => False
def retIds (T : Nat → AV) : List ResultVar → List Nat
  | [] => []
  | .tmp t :: l => (match T t with | .o (.r k _) => [k] | .o (.s k _ _) => [k] | _ => []) ++ retIds T l
  | .cell _ _ :: l => retIds T l
def RetQ (P : Program) (vars : List ResultVar) (rs : List Res) (st : St) : Prop := retAll P st.T st.m.get vars rs ∧ (retIds st.T vars).Nodup

theorem args_len {w : World} : ∀ {as : List Arg} {ys : List Value}, ArgsOK w as ys → as.length = ys.length
  | [], [], _ => rfl
  | _ :: _, _ :: _, h => by simp [args_len h.2]
  | [], _ :: _, h => h.elim
  | _ :: _, [], h => h.elim
theorem args_at {w : World} : ∀ {as : List Arg} {ys : List Value} {i : Nat} {b : Arg}, ArgsOK w as ys → as[i]? = some b → ∃ y, ys[i]? = some y ∧ ArgOK w b y
  | b :: _, y :: _, 0, b', h, h1 => by simp at h1; subst h1; exact ⟨y, rfl, h.1⟩
  | _ :: _, _ :: _, i + 1, _, h, h1 => by simpa using args_at h.2 (by simpa using h1)
  | [], _, _, _, _, h1 => by simp at h1
  | _ :: _, [], _, _, h, _ => h.elim
def viewArg (xs : List Value) : Arg → Prop
  | .sl _ _ xs' => xs' = xs
  | .bx xs' => xs' = xs
  | _ => False
/-- A row that a call may write: given away, or written in place. -/
def rowArg (e size n : Nat) (xs : List Value) : Arg → Prop
  | .mv e' size' n' xs' => e' = e ∧ size' = size ∧ n' = n ∧ xs' = xs
  | .io e' size' n' xs' _ => e' = e ∧ size' = size ∧ n' = n ∧ xs' = xs
  | _ => False
def boxArg (xs : List Value) : Arg → Prop
  | .ib xs' _ => xs' = xs
  | _ => False
/-- The entry that an argument stands for. -/
def argEnt (b : Arg) (e : Ent) : Prop := (∃ xs, viewArg xs b ∧ e = .view false xs) ∨ (∃ e2 size n xs, rowArg e2 size n xs b ∧ e = .row e2 size n xs) ∨ (∃ xs, boxArg xs b ∧ e = .box xs) ∨ ∃ x F, b = .fa x F ∧ e = .fact true F
theorem row_ok {e size n : Nat} {xs : List Value} {b : Arg} {w : World} {y : Value} (h : rowArg e size n xs b) (hA : ArgOK w b y) : (w.ownsRow 0 e size y n xs ∧ ∀ u ∈ xs, u.oneCell' = true) ∧ movedBlk b y = y.ownBlock ∧ readBlk b y = y.ownBlock := by
  cases b <;> first | exact h.elim | skip
  · obtain ⟨rfl, rfl, rfl, rfl⟩ := h; exact ⟨hA, rfl, rfl⟩
  · obtain ⟨rfl, rfl, rfl, rfl⟩ := h; exact ⟨hA, rfl, rfl⟩
theorem box_ok {xs : List Value} {b : Arg} {w : World} {y : Value} (h : boxArg xs b) (hA : ArgOK w b y) : xs.isEmpty = false ∧ (∀ u ∈ xs, u.oneCell' = true) ∧ ∃ g ty cur, (newLoc y).a = ⟨g, 0, none⟩ ∧ movedBlk b y = some g ∧ readBlk b y = some g ∧ w.heap[g]? = some (.cells cur ty (0, 0)) ∧ cur.toList.take xs.length = xs := by
  cases b <;> first | exact h.elim | skip
  rename_i xs' ys'
  have h : xs' = xs := h
  subst h
  obtain ⟨h1, h2, g, ty, cur, rfl, h3, h4⟩ := hA
  exact ⟨h1, h2, g, ty, cur, rfl, rfl, rfl, h3, h4⟩
theorem view_ok {xs : List Value} {b : Arg} {w : World} {y : Value} (h : viewArg xs b) (hA : ArgOK w b y) : (∀ j u, xs[j]? = some u → w.cell? ((newLoc y).a.add j) = some u) ∧ (∀ u ∈ xs, u.oneCell' = true) ∧ (xs.isEmpty = false → readBlk b y = some (newLoc y).a.block) := by
  cases b <;> first | exact h.elim | skip
  · rename_i n size xs'
    have h : xs' = xs := h
    subst h
    obtain ⟨o, cap, rfl, hle, hl, hnil, hone, hr⟩ := hA
    refine ⟨fun j u hj => ?_, hone, fun hne => ?_⟩
    · obtain ⟨ad, rfl, hr2⟩ := hr (by intro e; subst e; simp at hj)
      exact hr2 j u hj
    · obtain ⟨ad, rfl, _⟩ := hr (by intro e; subst e; simp at hne)
      simp only [readBlk, hne]; rfl
  · rename_i xs'
    have h : xs' = xs := h
    subst h
    obtain ⟨ad, rfl, hone, hr⟩ := hA
    exact ⟨hr, hone, fun hne => by simp only [readBlk, hne]; rfl⟩
theorem argE_get : ∀ {as : List Arg} {j k : Nat} {e : Ent}, (argE j as).get k = some e → ∃ i b, k = j + i ∧ as[i]? = some b ∧ argEnt b e
  | [], _, _, _, h => by cases h
  | b :: as, j, k, e, h => by
    have rest : (argE (j + 1) as).get k = some e → ∃ i b', k = j + i ∧ (b :: as)[i]? = some b' ∧ argEnt b' e := by
      intro h'
      obtain ⟨i, b', h1, h2, h3⟩ := argE_get h'
      exact ⟨i + 1, b', by omega, by simpa using h2, h3⟩
    cases b with
    | val x => exact rest h
    | fa x F =>
      simp only [argE, Mem.get] at h
      split at h
      · rename_i hk
        simp only [Option.some.injEq] at h
        exact ⟨0, _, by omega, rfl, .inr (.inr (.inr ⟨x, F, rfl, h.symm⟩))⟩
      · exact rest h
    | fv f => exact rest h
    | mv e2 size n xs =>
      simp only [argE, Mem.get] at h
      split at h
      · rename_i hk
        simp only [Option.some.injEq] at h
        exact ⟨0, _, by omega, rfl, .inr (.inl ⟨e2, size, n, xs, ⟨rfl, rfl, rfl, rfl⟩, h.symm⟩)⟩
      · exact rest h
    | io e2 size n xs ys =>
      simp only [argE, Mem.get] at h
      split at h
      · rename_i hk
        simp only [Option.some.injEq] at h
        exact ⟨0, _, by omega, rfl, .inr (.inl ⟨e2, size, n, xs, ⟨rfl, rfl, rfl, rfl⟩, h.symm⟩)⟩
      · exact rest h
    | ib xs ys =>
      simp only [argE, Mem.get] at h
      split at h
      · rename_i hk
        simp only [Option.some.injEq] at h
        exact ⟨0, _, by omega, rfl, .inr (.inr (.inl ⟨xs, rfl, h.symm⟩))⟩
      · exact rest h
    | sl n size xs =>
      simp only [argE, Mem.get] at h
      split at h
      · rename_i hk
        simp only [Option.some.injEq] at h
        exact ⟨0, _, by omega, rfl, .inl ⟨xs, rfl, h.symm⟩⟩
      · exact rest h
    | bx xs =>
      simp only [argE, Mem.get] at h
      split at h
      · rename_i hk
        simp only [Option.some.injEq] at h
        exact ⟨0, _, by omega, rfl, .inl ⟨xs, rfl, h.symm⟩⟩
      · exact rest h
/-- Has it an entry of its own? -/
def hasE : Arg → Bool
  | .val _ => false
  | .fv _ => false
  | _ => true
theorem argE_live : ∀ {as : List Arg} {j i : Nat} {b : Arg}, as[i]? = some b → (hasE b = true) → ((argE j as).get (j + i)).isSome = true
  | [], _, _, _, h, _ => by simp at h
  | b :: as, j, 0, b', h, hv => by
    simp at h; subst h
    cases b with
    | val x => cases hv
    | fv f => cases hv
    | _ => simp [argE, Mem.get]
  | b :: as, j, i + 1, b', h, hv => by
    have ih := argE_live (j := j + 1) (i := i) (as := as) (by simpa using h) hv
    have e : j + 1 + i = j + (i + 1) := by omega
    rw [e] at ih
    cases b with
    | val x => exact ih
    | fv f => exact ih
    | mv e2 s2 n2 x2 => simp only [argE, Mem.get]; split <;> first | rfl | exact ih
    | sl n2 s2 x2 => simp only [argE, Mem.get]; split <;> first | rfl | exact ih
    | bx x2 => simp only [argE, Mem.get]; split <;> first | rfl | exact ih
    | io e2 s2 n2 x2 y2 => simp only [argE, Mem.get]; split <;> first | rfl | exact ih
    | ib x2 y2 => simp only [argE, Mem.get]; split <;> first | rfl | exact ih
    | fa x2 y2 => simp only [argE, Mem.get]; split <;> first | rfl | exact ih
def argAV (i : Nat) : Arg → AV
  | .val x => .o (.v x)
  | .fa x _ => .o (.v x)
  | .sl n _ _ => .o (.s i 0 n)
  | .mv _ _ n _ => .o (.r i n)
  | .bx _ => .o (.p i 0)
  | .io _ _ n _ _ => .o (.r i n)
  | .ib _ _ => .o (.p i 0)
  | .fv f => .o (.fn f [])
theorem argA_at : ∀ {as : List Arg} {j i : Nat} {b : Arg}, as[i]? = some b → (argA j as)[i]? = some (argAV (j + i) b)
  | [], _, _, _, h => by simp at h
  | b :: as, j, 0, b', h => by simp at h; subst h; cases b <;> rfl
  | b :: as, j, i + 1, b', h => by
    have ih := argA_at (j := j + 1) (i := i) (as := as) (by simpa using h)
    have e : j + 1 + i = j + (i + 1) := by omega
    rw [e] at ih
    cases b <;> simpa [argA] using ih
theorem argA_len : ∀ {as : List Arg} {j : Nat}, (argA j as).length = as.length
  | [], _ => rfl
  | .val _ :: as, j => by simp [argA, argA_len (as := as) (j := j + 1)]
  | .sl .. :: as, j => by simp [argA, argA_len (as := as) (j := j + 1)]
  | .mv .. :: as, j => by simp [argA, argA_len (as := as) (j := j + 1)]
  | .bx .. :: as, j => by simp [argA, argA_len (as := as) (j := j + 1)]
  | .io .. :: as, j => by simp [argA, argA_len (as := as) (j := j + 1)]
  | .ib .. :: as, j => by simp [argA, argA_len (as := as) (j := j + 1)]
  | .fv .. :: as, j => by simp [argA, argA_len (as := as) (j := j + 1)]
  | .fa .. :: as, j => by simp [argA, argA_len (as := as) (j := j + 1)]

theorem moved_at : ∀ {as : List Arg} {ys : List Value} {i : Nat} {a : Arg} {y : Value} {b : Nat}, as[i]? = some a → ys[i]? = some y → movedBlk a y = some b → moved as ys b
  | _ :: _, _ :: _, 0, _, _, _, h1, h2, h3 => by simp at h1 h2; subst h1 h2; exact .inl h3
  | _ :: _, _ :: _, i + 1, _, _, _, h1, h2, h3 => .inr (moved_at (i := i) (by simpa using h1) (by simpa using h2) h3)
  | [], _, _, _, _, _, h1, _, _ => by simp at h1
  | _ :: _, [], _, _, _, _, _, h2, _ => by simp at h2
theorem apart_at : ∀ {as : List Arg} {ys : List Value} {i j : Nat} {a b : Arg} {y z : Value} {g : Nat}, apartArgs as ys → i ≠ j → as[i]? = some a → ys[i]? = some y → as[j]? = some b → ys[j]? = some z → movedBlk a y = some g → readBlk b z ≠ some g
  | a :: as, y :: ys, 0, j + 1, _, _, _, _, _, hp, _, h1, h2, h3, h4, h5 => by
    simp at h1 h2 h3 h4
    subst h1 h2
    have : (as.zip ys)[j]? = some (_, _) := List.getElem?_zip_eq_some.2 ⟨h3, h4⟩
    exact hp.1 _ h5 _ _ (List.mem_of_getElem? this)
  | a :: as, y :: ys, i + 1, 0, _, _, _, _, g, hp, _, h1, h2, h3, h4, h5 => by
    simp at h1 h2 h3 h4
    subst h3 h4
    have : (as.zip ys)[i]? = some (_, _) := List.getElem?_zip_eq_some.2 ⟨h1, h2⟩
    intro hr
    exact hp.2.1 g hr _ _ (List.mem_of_getElem? this) h5
  | a :: as, y :: ys, i + 1, j + 1, _, _, _, _, _, hp, hn, h1, h2, h3, h4, h5 => apart_at (i := i) (j := j) hp.2.2 (by omega) (by simpa using h1) (by simpa using h2) (by simpa using h3) (by simpa using h4) h5
  | _, _, 0, 0, _, _, _, _, _, _, hn, _, _, _, _, _ => absurd rfl hn
  | [], _, _, _, _, _, _, _, _, _, _, h1, _, _, _, _ => by simp at h1
  | _ :: _, [], _, _, _, _, _, _, _, _, _, _, h2, _, _, _ => by simp at h2

def startB (w : World) (C : Nat → Prop) (as : List Arg) (ys : List Value) : Base := ⟨w, fun b => w.heap.size ≤ b ∨ moved as ys b, fun _ h => .inl h, fun _ => #[], [], fun b => C b ∧ ¬ (w.heap.size ≤ b ∨ moved as ys b), fun _ h h2 => h2.2 h⟩
theorem start_fct {w w' : World} {C : Nat → Prop} {as : List Arg} {ys : List Value} {i : Nat} {x : Value} {F : World → Prop} (hf : factsOK w C as ys) (hi : as[i]? = some (.fa x F)) {sv : Nat → Array Value} {df : List Deferred} {h1 h2} (f : Fr w w' (Base.st ⟨w, fun b => w.heap.size ≤ b ∨ moved as ys b, h1, sv, df, fun b => C b ∧ ¬ (w.heap.size ≤ b ∨ moved as ys b), h2⟩ true)) : F w' := by
  refine hf i x F hi w' ⟨f.os, f.tape, f.output, f.size, f.drawn, fun k hk hn => f.block k hk ?_⟩
  rintro (h | ⟨_, h, _⟩ | h)
  · rcases h with h | h
    · have h : w.heap.size ≤ k := h
      omega
    · exact hn (.inl h)
  · exact hn (.inr (.inl h))
  · exact hn (.inr (.inr h))
theorem start_sat {as : List Arg} {w : World} {C : Nat → Prop} {ys : List Value} (h : ArgsOK w as ys) (hap : apartArgs as ys) (hfa : factsOK w C as ys) (N : Nat) :
    ∃ ρ, SatN (startB w C as ys) ρ ⟨argA 0 as ++ List.replicate (N - as.length) (.o (.v undef)), argE 0 as, as.length⟩ ⟨ys.toArray ++ Array.replicate (N - ys.toArray.size) undef, []⟩ w := by
  have hlen := args_len h
  have row_ent : ∀ {e2 size n : Nat} {xs : List Value} {y : Value}, w.ownsRow 0 e2 size y n xs → ∀ g m c, y = .slice (some g) m c → (newLoc y).a = g := by
    intro e2 size n xs y _ g m c hy; subst hy; rfl
  refine ⟨fun k => match ys[k]? with | some y => newLoc y | none => ⟨default, undef⟩, _, Ext.refl _, ⟨Fr.refl _ _, ⟨?_, ?_, ?_, ?_, fun k rt F hk w' hw' => ?_⟩, ?_, ?_, rfl⟩, ?_⟩
  rotate_left
  · intro k cs hk
    obtain ⟨i, b, rfl, h2, ⟨xs, h3, h0⟩ | ⟨e2, size, n, xs, h3, h0⟩ | ⟨xs, h3, h0⟩ | ⟨x, F, h3, h0⟩⟩ := argE_get hk <;> cases h0
  · intro k j l hk
    obtain ⟨i, b, rfl, h2, ⟨xs, h3, h0⟩ | ⟨e2, size, n, xs, h3, h0⟩ | ⟨xs, h3, h0⟩ | ⟨x, F, h3, h0⟩⟩ := argE_get hk <;> cases h0
  rotate_right
  · intro k e hk
    obtain ⟨i, b, rfl, h2, ⟨xs, h3, rfl⟩ | ⟨e2, size, n, xs, h3, rfl⟩ | ⟨xs, h3, rfl⟩ | ⟨x, F, h3, rfl⟩⟩ := argE_get hk
    · obtain ⟨y, hy, hA⟩ := args_at h h2
      simp only [Nat.zero_add, hy]
      obtain ⟨r1, r2, _⟩ := view_ok h3 hA
      exact ⟨r1, r2, by simp⟩
    · obtain ⟨y, hy, hA⟩ := args_at h h2
      simp only [Nat.zero_add, hy]
      obtain ⟨⟨r1, r2⟩, r3, _⟩ := row_ok h3 hA
      exact ⟨r1, row_ent r1, r2, fun b' hb => .inr (moved_at h2 hy (by rw [r3]; exact hb))⟩
    · obtain ⟨y, hy, hA⟩ := args_at h h2
      simp only [Nat.zero_add, hy]
      obtain ⟨_, r2, g, ty, cur, r3, r4, _, r6, r7⟩ := box_ok h3 hA
      exact ⟨r2, fun _ => ⟨g, ty, cur, r3, .inr (moved_at h2 hy r4), r6, r7⟩⟩
    · trivial
  · have reads : ∀ {i : Nat} {b : Arg} {e : Ent} {y : Value} {g : Nat}, as[i]? = some b → ys[i]? = some y → argEnt b e → ArgOK w b y → e.blk (newLoc y) = some g → readBlk b y = some g := by
      rintro i b e y g h2 hy (⟨xs, h3, rfl⟩ | ⟨e2, size, n, xs, h3, rfl⟩ | ⟨xs, h3, rfl⟩ | ⟨x, F, h3, rfl⟩) hA hg
      · obtain ⟨_, _, q3⟩ := view_ok h3 hA
        simp only [Ent.blk] at hg
        split at hg
        · cases hg
        · rename_i hx
          rw [q3 (by simpa using hx)]; exact hg
      · obtain ⟨_, _, q4⟩ := row_ok h3 hA
        rw [q4]; exact hg
      · obtain ⟨r1, _, g', ty, cur, r3, _, r5, _⟩ := box_ok h3 hA
        simp only [Ent.blk, r1, r3] at hg
        rw [r5]; simpa using hg
      · simp [Ent.blk] at hg
    have moves : ∀ {i : Nat} {b : Arg} {e : Ent} {y : Value} {g : Nat}, as[i]? = some b → ys[i]? = some y → argEnt b e → ArgOK w b y → e.fresh = true → e.blk (newLoc y) = some g → movedBlk b y = some g := by
      rintro i b e y g h2 hy (⟨xs, h3, rfl⟩ | ⟨e2, size, n, xs, h3, rfl⟩ | ⟨xs, h3, rfl⟩ | ⟨x, F, h3, rfl⟩) hA hf hg
      · simp [Ent.fresh] at hf
      · obtain ⟨_, q3, _⟩ := row_ok h3 hA
        rw [q3]; exact hg
      · obtain ⟨r1, _, g', ty, cur, r3, r4, _⟩ := box_ok h3 hA
        simp only [Ent.blk, r1, r3] at hg
        rw [r4]; simpa using hg
      · simp [Ent.fresh] at hf
    intro k e k' e' hk ho hk' hne
    obtain ⟨i, b, rfl, h2, h3⟩ := argE_get hk
    obtain ⟨y, hy, hA⟩ := args_at h h2
    obtain ⟨i', b', rfl, h2', h3'⟩ := argE_get hk'
    obtain ⟨y', hy', hA'⟩ := args_at h h2'
    simp only [Nat.zero_add, hy, hy'] at hne ⊢
    cases hb : e.blk (newLoc y) with
    | none => exact .inl rfl
    | some g =>
      refine .inr fun hc => ?_
      exact apart_at hap hne h2 hy h2' hy' (moves h2 hy h3 hA ho hb) (reads h2' hy' h3' hA' hc.symm)
  · obtain ⟨i, b, rfl, h2, ⟨xs, h3, h0⟩ | ⟨e2, size, n, xs, h3, h0⟩ | ⟨xs, h3, h0⟩ | ⟨x, F2, h3, h0⟩⟩ := argE_get hk <;> cases h0
    subst h3
    exact start_fct hfa h2 hw'
  · intro i
    show Den _ _ ((argA 0 as ++ List.replicate (N - as.length) (AV.o (.v undef))).getD i (.o .any)) ((ys.toArray ++ Array.replicate (N - ys.toArray.size) undef).getD i undef)
    by_cases hi : i < as.length
    · have hiy : i < ys.length := by omega
      have e1 : (ys.toArray ++ Array.replicate (N - ys.toArray.size) undef).getD i undef = ys[i] := by
        rw [Array.getD_eq_getD_getElem?, Array.getElem?_append_left (by simpa using hiy)]
        simp [hiy]
      rw [e1]
      have e2 : (argA 0 as ++ List.replicate (N - as.length) (AV.o (.v undef))).getD i (.o .any) = (argA 0 as).getD i (.o .any) := by
        rw [List.getD_eq_getElem?_getD, List.getElem?_append_left (by rw [argA_len]; exact hi), ← List.getD_eq_getElem?_getD]
      rw [e2]
      have h1 : as[i]? = some as[i] := List.getElem?_eq_getElem hi
      have h2 := argA_at (j := 0) h1
      obtain ⟨y, hy, hA⟩ := args_at h h1
      have hyy : ys[i] = y := by rw [List.getElem?_eq_getElem hiy] at hy; simpa using hy
      rw [List.getD_eq_getElem?_getD, h2, hyy]
      cases hb : as[i] with
      | val x => rw [hb] at hA; exact hA
      | fa x F => rw [hb] at hA; exact hA.1
      | fv f => rw [hb] at hA; exact ⟨fun _ h => (by cases h), hA⟩
      | mv e2 size n xs =>
        rw [hb] at hA h1
        refine ⟨by simpa using argE_live (j := 0) h1 rfl, ?_⟩
        simp only [Nat.zero_add, hy]
        exact den_row hA.1 rfl (fun g m c hv => row_ent hA.1 g m c hv)
      | io e2 size n xs ys =>
        rw [hb] at hA h1
        refine ⟨by simpa using argE_live (j := 0) h1 rfl, ?_⟩
        simp only [Nat.zero_add, hy]
        exact den_row hA.1 rfl (fun g m c hv => row_ent hA.1 g m c hv)
      | ib xs ys =>
        rw [hb] at hA h1
        obtain ⟨_, _, g, ty, cur, rfl, _⟩ := hA
        refine ⟨by simpa using argE_live (j := 0) h1 rfl, ?_⟩
        simp only [Nat.zero_add, hy]
        simp [newLoc, Addr.add]
      | bx xs =>
        rw [hb] at hA h1
        obtain ⟨ad, rfl, hone, hr⟩ := hA
        refine ⟨by simpa using argE_live (j := 0) h1 rfl, ?_⟩
        simp only [Nat.zero_add, hy]
        simp [newLoc, Addr.add]
      | sl n size xs =>
        rw [hb] at hA h1
        obtain ⟨o, cap, rfl, hle, hl, hnil, hone, hr⟩ := hA
        refine ⟨by simpa using argE_live (j := 0) h1 rfl, o, cap, rfl, hle, ?_, hnil⟩
        by_cases h0 : n = 0
        · exact .inl h0
        · refine .inr ?_
          simp only [Nat.zero_add, hy]
          cases o with
          | none => have := hnil rfl; omega
          | some ad => simp [newLoc, Addr.add]
    · have e1 : (ys.toArray ++ Array.replicate (N - ys.toArray.size) undef).getD i undef = undef := by
        rw [Array.getD_eq_getD_getElem?, Array.getElem?_append_right (by simp; omega)]
        simp [Array.getElem?_replicate]
        split <;> rfl
      rw [e1]
      rw [List.getD_eq_getElem?_getD, List.getElem?_append_right (by rw [argA_len]; omega), List.getElem?_replicate]
      split
      · exact rfl
      · trivial
  · simp only [Array.size_append, List.size_toArray, Array.size_replicate, List.length_append, List.length_replicate, argA_len]
    omega
  · intro j hj
    obtain ⟨e, he⟩ := Option.isSome_iff_exists.1 hj
    obtain ⟨i, b, rfl, h2, _⟩ := argE_get he
    have : i < as.length := (List.getElem?_eq_some_iff.1 h2).1
    show 0 + i < as.length
    omega

/-! ### results -/
theorem mapM_run {α β : Type} (P : Program) (w : World) (g : α → Sem β) (h : α → β → Prop) : ∀ (l : List α) (zs : List β), l.length = zs.length → (∀ (i : Nat) (a : α) (z : β), l[i]? = some a → zs[i]? = some z → (g a).run P w = .ok z w) → (l.mapM g).run P w = .ok zs w
  | [], [], _, _ => by simp
  | a :: l, z :: zs, hl, hr => by
    have h0 := hr 0 a z rfl rfl
    have ih := mapM_run P w g h l zs (by simpa using hl) (fun i a z h1 h2 => hr (i + 1) a z (by simpa using h1) (by simpa using h2))
    simp [List.mapM_cons, h0, ih]
  | [], _ :: _, hl, _ => by simp at hl
  | _ :: _, [], hl, _ => by simp at hl

def getRes (tmps : Array Value) : ResultVar → Sem Value
  | .tmp t => pure (tmps.getD t undef)
  | .cell a t => do loadVar t (← asAddr (tmps.getD a undef))

theorem results_run {fn : Func} {tmps : Array Value} {w : World} {zs : List Value} (hl : fn.results.toList.length = zs.length)
    (hr : ∀ (i : Nat) (v : ResultVar) (z : Value), fn.results.toList[i]? = some v → zs[i]? = some z → (getRes tmps v).run P w = .ok z w) : (results fn tmps).run P w = .ok (pack zs) w := by
  have h1 : (fn.results.mapM (getRes tmps)).run P w = .ok zs.toArray w := by
    rw [Array.mapM_eq_mapM_toList]
    have := mapM_run P w (getRes tmps) (fun _ _ => True) fn.results.toList zs hl hr
    simp [this]
  have h2 : results fn tmps = (do let vs ← fn.results.mapM (getRes tmps); pure (if h : vs.size = 1 then vs[0] else .tuple vs)) := by
    unfold results
    congr 1
  rw [h2]
  simp only [Sem.run_bind, h1, Result.andThen_ok, Sem.run_pure]
  match zs with
  | [] => rfl
  | [z] => rfl
  | _ :: _ :: _ => simp [pack]

theorem cell_run {w0 : Base} {ρ : Nat → Loc} {T : Nat → AV} {M : MemF} {N : Nat} {a : Act} {w : World} (h : SatS w0 ρ T M N a w) {t : Nat} {ty : TypeId} {k off : Nat} {c : Prop} {x : Value} (hT : T t = .o (.p k off)) (he : loadEff P M ty k off = .ok c (val x)) (hc : c) :
    (getRes a.tmps (.cell t ty)).run P w = .ok x w := by
  have hd := h.slot t
  rw [hT] at hd
  obtain ⟨_, hd⟩ := hd
  have hop : ({ dst := none, op := .load ty (.tmp t), type := 0, pos := "", after := #[], guard := none } : Oper).op = .load ty (.tmp t) := rfl
  unfold loadEff at he
  split at he
  · rename_i e sz g hM hsz hg
    have hs := h.mem.ent k e hM
    split at he
    · rename_i cs hcs
      cases g with
      | true =>
        simp only [Eff.ok.injEq] at he
        obtain ⟨rfl, he⟩ := he
        obtain ⟨hf, hp⟩ := hc
        have hx : Value.agg ((cs.drop off).take sz).toArray = x := by simpa [val] using he
        subst hx
        have hrd := hs.reads hcs (by intro e0; subst e0; simp at hf; omega)
        have hlen : ((cs.drop off).take sz).length = sz := by simp; omega
        have hl := run_loadCells_list (P := P) w (((ρ k).a).add off) ((cs.drop off).take sz) (fun j v hj => by
          rw [addr_add_add]
          refine hrd (off + j) v ?_
          rw [List.getElem?_take] at hj
          split at hj
          · rwa [List.getElem?_drop] at hj
          · cases hj)
        rw [hlen] at hl
        simp only [getRes, hd, asAddr, loadVar, Sem.run_bind, Sem.run_pure, Result.andThen_ok, run_isAgg' hg, run_sizeOf' hsz, if_true, hl]
      | false =>
        simp only [Eff.ok.injEq] at he
        obtain ⟨rfl, he⟩ := he
        have hx : cs.getD off undef = x := by simpa [val] using he
        have hrd := hs.reads hcs (by intro e0; subst e0; simp at hc)
        have hcell := hrd off (cs.getD off undef) (by simp [List.getD, List.getElem?_eq_getElem hc])
        rw [hx] at hcell
        simp only [getRes, hd, asAddr, loadVar, Sem.run_bind, Sem.run_pure, Result.andThen_ok, run_isAgg' hg, Bool.false_eq_true, if_false]
        simp [hcell]
    · unfold hdrLoad at he
      split at he
      · rename_i cs hce
        simp only [Eff.ok.injEq] at he
        obtain ⟨rfl, he⟩ := he
        have hx : cs.getD off .any = .v x := by simpa [val] using he
        obtain ⟨y, hcell, _, hy⟩ := h.mem.hdr k cs hM off (cs.getD off .any) (by simp [List.getD, List.getElem?_eq_getElem hc])
        rw [hx] at hy
        have hy : y = x := hy
        subst hy
        simp only [getRes, hd, asAddr, loadVar, Sem.run_bind, Sem.run_pure, Result.andThen_ok, run_isAgg' hg, Bool.false_eq_true, if_false]
        simp [hcell]
      · cases he
  · cases he
/-- One result, of its cell or slot. -/
theorem retA_run {w0 : Base} {ρ : Nat → Loc} {T : Nat → AV} {M : MemF} {N : Nat} {a : Act} {w : World} (h : SatS w0 ρ T M N a w) {v : ResultVar} {r : Res} (hr : retA P T M v r) :
    ∃ z, (getRes a.tmps v).run P w = .ok z w ∧ ResOK w w0.own r z ∧
      (∀ b, ResBlk r z = some b → ∃ t k e, v = .tmp t ∧ ((∃ n, T t = .o (.r k n)) ∨ ∃ off n, T t = .o (.s k off n)) ∧ M k = some e ∧ e.blk (ρ k) = some b) ∧ ∀ F, r = .fa F → ents M true (F z) := by
  cases v with
  | cell t ty =>
    cases r with
    | val x =>
      simp only [retA] at hr
      split at hr
      · rename_i k off hT
        split at hr
        · rename_i c u he
          obtain ⟨hc, rfl⟩ := hr
          exact ⟨x, cell_run h hT he hc, rfl, by simp [ResBlk], by intro F hF; cases hF⟩
        · exact hr.elim
      · exact hr.elim
    | fa F =>
      simp only [retA] at hr
      split at hr
      · rename_i k off hT
        split at hr
        · rename_i c u he
          obtain ⟨hc, x, rfl, hF⟩ := hr
          exact ⟨x, cell_run h hT he hc, trivial, by simp [ResBlk], by intro F2 hF2; cases hF2; exact hF⟩
        · exact hr.elim
      · exact hr.elim
    | _ => exact hr.elim
  | tmp t =>
    have hr : resMatch M (T t) r := hr
    have hd := h.slot t
    refine ⟨a.tmps.getD t undef, rfl, ?_⟩
    refine (fun (h : ResOK w w0.own r (a.tmps.getD t undef) ∧ (∀ b, ResBlk r (a.tmps.getD t undef) = some b → ∃ t1 k e, ResultVar.tmp t = .tmp t1 ∧ ((∃ n, T t1 = .o (.r k n)) ∨ ∃ off n, T t1 = .o (.s k off n)) ∧ M k = some e ∧ e.blk (ρ k) = some b)) => (⟨h.1, h.2, ?_⟩ : _ ∧ _ ∧ _)) ?_
    · intro F hF
      subst hF
      cases hT : T t with
      | o a0 =>
        cases a0 with
        | v y =>
          rw [hT] at hr hd
          have hd : a.tmps.getD t undef = y := hd
          rw [hd]
          cases y <;> exact hr
        | _ => rw [hT] at hr; exact hr.elim
      | t l => rw [hT] at hr; exact hr.elim
    have nilrow : T t = .o (.v (.slice none 0 0)) → a.tmps.getD t undef = .slice none 0 0 := by intro hT; rw [hT] at hd; exact hd
    cases r with
    | val x =>
      cases hT : T t with
      | o a0 =>
        cases a0 with
        | v y =>
          rw [hT] at hr hd
          have hr : y = x := by
            cases y <;> first | exact hr | skip
          subst hr
          exact ⟨hd, by simp [ResBlk]⟩
        | _ => rw [hT] at hr; exact hr.elim
      | t l => rw [hT] at hr; exact hr.elim
    | fa F => exact ⟨trivial, by simp [ResBlk]⟩
    | row e size n xs =>
      unfold resMatch at hr
      split at hr
      · rename_i h1 _ h2; cases h2
      · rename_i h1 h2
        cases h2
        obtain ⟨rfl, rfl⟩ := hr
        rw [nilrow h1]
        exact ⟨⟨World.ownsRow_nil _ _ _ _, by simp, by simp [Value.ownBlock]⟩, by simp [ResBlk, Value.ownBlock]⟩
      · rename_i k n0 e' s' n' xs' h1 h2
        cases h2
        rw [h1] at hd
        obtain ⟨_, hd, _⟩ := hd
        have hs := h.mem.ent k _ hr
        have hs' := hs
        obtain ⟨g1, g2, g3, g4⟩ := hs
        rw [hd]
        refine ⟨⟨⟨g1.1, g1.2.imp (fun x => x) fun ⟨g, cap, cur, hv, hg, rest⟩ => ⟨g, cap, cur, hv, Nat.zero_le _, rest⟩⟩, g3, fun b hb => g4 b hb⟩, fun b hb => ⟨t, k, _, rfl, .inl ⟨n0, h1⟩, hr, hb⟩⟩
      · rename_i h2; cases h2
      · rename_i h2; cases h2
      · rename_i h2; cases h2
      · rename_i h2; cases h2
      · rename_i h2; cases h2
      · rename_i h2; cases h2
      · rename_i h2; cases h2
      · exact hr.elim
    | view n size xs =>
      unfold resMatch at hr
      split at hr
      · rename_i h2; cases h2
      · rename_i h2; cases h2
      · rename_i h2; cases h2
      · rename_i h1 h2
        cases h2
        obtain ⟨rfl, rfl⟩ := hr
        rw [nilrow h1]
        exact ⟨⟨⟨none, 0, rfl, Nat.le_refl _, by simp, fun _ => rfl, by simp, by simp⟩, by simp⟩, by simp [ResBlk]⟩
      · rename_i k n0 n' s' xs' h1 h2
        cases h2
        obtain ⟨e, hr⟩ := hr
        rw [h1] at hd
        obtain ⟨_, hd, _⟩ := hd
        have hs := h.mem.ent k _ hr
        obtain ⟨g1, g2, g3, g4⟩ := hs
        rw [hd]
        refine ⟨⟨?_, fun b _ hb => g4 b hb⟩, fun b hb => ⟨t, k, _, rfl, .inl ⟨n0, h1⟩, hr, ?_⟩⟩
        · rcases g1.2 with ⟨hv, h0⟩ | ⟨g, cap, cur, hv, _, _, hnc, _⟩
          · subst h0
            exact ⟨none, 0, hv, Nat.le_refl _, g1.1, fun _ => rfl, g3, fun hne => absurd (List.eq_nil_of_length_eq_zero (by simpa using g1.1)) hne⟩
          · exact ⟨_, cap, hv, hnc, g1.1, by simp, g3, fun _ => ⟨_, rfl, g1.cells (g := g) (by simp [hv, Value.ownBlock])⟩⟩
        · simp only [ResBlk] at hb
          split at hb
          · cases hb
          · exact hb
      · rename_i k off n0 n' s' xs' h1 h2
        cases h2
        obtain ⟨rfl, hl, hr⟩ := hr
        split at hr
        · rename_i e hM
          obtain ⟨hfr, hr⟩ := hr
          split at hr
          · rename_i cs hcs
            rw [h1] at hd
            obtain ⟨_, o', cap, hd, hle, hor, hnil⟩ := hd
            have hs := h.mem.ent k e hM
            have hone := hs.one hcs
            have key : xs ≠ [] → o' = some ((ρ k).a.add off) ∧ cs ≠ [] := by
              intro hne
              refine ⟨hor.resolve_left ?_, ?_⟩
              · intro e0; subst e0; simp at hl; exact hne hl
              · intro e0; subst e0; rw [← hr] at hne; simp at hne
            have blk : xs ≠ [] → e.blk (ρ k) = some (ρ k).a.block := by
              intro hne
              obtain ⟨_, hcne⟩ := key hne
              cases e with
              | box cs2 =>
                simp only [Ent.cells, Option.some.injEq] at hcs
                subst hcs
                cases cs2 with
                | nil => exact absurd rfl hcne
                | cons x2 xs2 => simp [Ent.blk]
              | row e2 sz n2 xs2 =>
                simp only [Ent.cells, Option.some.injEq] at hcs
                subst hcs
                obtain ⟨g1, g2, _⟩ := hs
                rcases g1.2 with ⟨hvv, h0⟩ | ⟨g, cap2, cur, hvv, _⟩
                · subst h0
                  exact absurd (List.eq_nil_of_length_eq_zero (by simpa using g1.1)) hcne
                · rw [blk_row, hvv, g2 _ _ _ hvv]; rfl
              | view fr xs2 =>
                simp only [Ent.cells, Option.some.injEq] at hcs
                subst hcs
                cases xs2 with
                | nil => exact absurd rfl hcne
                | cons x2 xs2 => simp [Ent.blk]
              | hdr cs2 => simp [Ent.cells] at hcs
              | sav j2 l2 => simp [Ent.cells] at hcs
              | fact rt2 F2 => simp [Ent.cells] at hcs
              | dead => simp [Ent.cells] at hcs
            refine ⟨⟨⟨o', cap, hd, hle, hl, hnil, ?_, ?_⟩, ?_⟩, ?_⟩
            · intro u hu
              rw [← hr] at hu
              exact hone u (List.mem_of_mem_drop (List.mem_of_mem_take hu))
            · intro hne
              obtain ⟨ho, hcne⟩ := key hne
              refine ⟨_, ho, fun j u hj => ?_⟩
              rw [addr_add_add]
              refine hs.reads hcs hcne (off + j) u ?_
              rw [← hr, List.getElem?_take] at hj
              split at hj
              · rwa [List.getElem?_drop] at hj
              · cases hj
            · intro b hne hb
              have hne : xs ≠ [] := by intro e0; subst e0; simp at hne
              obtain ⟨ho, hcne⟩ := key hne
              rw [hd, ho] at hb
              simp only [Value.ownBlock, addr_add_block, Option.some.injEq] at hb
              have hbk := blk hne
              rw [hb] at hbk
              cases e with
              | view fr xs2 =>
                have hfr : fr = true := hfr
                obtain ⟨_, _, g3⟩ := hs
                rw [← hb]
                refine g3 hfr ?_
                simp only [Ent.cells, Option.some.injEq] at hcs
                subst hcs
                cases xs2 with
                | nil => exact absurd rfl hcne
                | cons x2 xs2 => rfl
              | hdr cs2 => simp [Ent.cells] at hcs
              | sav j2 l2 => simp [Ent.cells] at hcs
              | fact rt2 F2 => simp [Ent.cells] at hcs
              | dead => simp [Ent.cells] at hcs
              | box cs2 => exact hs.ge rfl hbk
              | row e2 s2 n2 x2 => exact hs.ge rfl hbk
            · intro b hb
              simp only [ResBlk] at hb
              split at hb
              · cases hb
              · rename_i hne
                have hne : xs ≠ [] := by intro e0; subst e0; simp at hne
                obtain ⟨ho, hcne⟩ := key hne
                rw [hd, ho] at hb
                simp only [Value.ownBlock, addr_add_block, Option.some.injEq] at hb
                exact ⟨t, k, e, rfl, .inr ⟨off, n0, h1⟩, hM, by rw [blk hne, hb]⟩
          · exact hr.elim
        · exact hr.elim
      · rename_i h2; cases h2
      · rename_i h2; cases h2
      · rename_i h2; cases h2
      · rename_i h2; cases h2
      · exact hr.elim
    | part n size xs =>
      unfold resMatch at hr
      split at hr
      · rename_i h2; cases h2
      · rename_i h2; cases h2
      · rename_i h2; cases h2
      · rename_i h2; cases h2
      · rename_i h2; cases h2
      · rename_i h2; cases h2
      · rename_i h1 h2
        cases h2
        obtain ⟨rfl, rfl⟩ := hr
        rw [nilrow h1]
        exact ⟨⟨⟨none, 0, rfl, Nat.le_refl _, by simp, fun _ => rfl, by simp, by simp⟩, by simp⟩, by simp [ResBlk]⟩
      · rename_i k n0 n' s' xs' h1 h2
        cases h2
        obtain ⟨e, hr⟩ := hr
        rw [h1] at hd
        obtain ⟨_, hd, _⟩ := hd
        have hs := h.mem.ent k _ hr
        obtain ⟨g1, g2, g3, g4⟩ := hs
        rw [hd]
        refine ⟨⟨?_, fun hne => ?_⟩, fun b hb => ⟨t, k, _, rfl, .inl ⟨n0, h1⟩, hr, ?_⟩⟩
        · rcases g1.2 with ⟨hv, h0⟩ | ⟨g, cap, cur, hv, _, _, hnc, _⟩
          · subst h0
            exact ⟨none, 0, hv, Nat.le_refl _, g1.1, fun _ => rfl, g3, fun hne => absurd (List.eq_nil_of_length_eq_zero (by simpa using g1.1)) hne⟩
          · exact ⟨_, cap, hv, hnc, g1.1, by simp, g3, fun _ => ⟨_, rfl, g1.cells (g := g) (by simp [hv, Value.ownBlock])⟩⟩
        · rcases g1.2 with ⟨hv, h0⟩ | ⟨g, cap, cur, hv, _, hh, hnc, _, _, ht⟩
          · subst h0
            have := List.eq_nil_of_length_eq_zero (show xs.length = 0 by simpa using g1.1)
            rw [this] at hne
            cases hne
          · exact ⟨g, cap, e, cur, hv, g4 g (by rw [hv]; rfl), hh, by rw [g1.1]; exact ht⟩
        · simp only [ResBlk] at hb
          split at hb
          · cases hb
          · exact hb
      · rename_i k n0 n' s' xs' h1 h2
        cases h2
        obtain ⟨rfl, hl, hr⟩ := hr
        split at hr
        · rename_i e hM
          obtain ⟨hfr, hr⟩ := hr
          split at hr
          · rename_i cs hcs
            rw [h1] at hd
            obtain ⟨_, o', cap, hd, hle, hor, hnil⟩ := hd
            have hs := h.mem.ent k e hM
            have hone := hs.one hcs
            have key : xs ≠ [] → o' = some (ρ k).a ∧ cs ≠ [] := by
              intro hne
              refine ⟨?_, ?_⟩
              · have := hor.resolve_left (by intro e0; subst e0; simp at hl; exact hne hl)
                simpa [Addr.add] using this
              · intro e0; subst e0; rw [← hr] at hne; simp at hne
            have full : xs ≠ [] → ∃ b ty cur, (ρ k).a = ⟨b, 0, none⟩ ∧ e.blk (ρ k) = some b ∧ w.heap[b]? = some (.cells cur ty (0, 0)) ∧ cur.toList.take xs.length = xs := by
              intro hne
              obtain ⟨b, ty, cur, ha, hb, hh, ht⟩ := hs.own_at hfr hcs (key hne).2
              refine ⟨b, ty, cur, ha, hb, hh, ?_⟩
              have hle2 : xs.length ≤ cs.length := by rw [← hr]; simp; omega
              have e1 : cur.toList.take xs.length = cs.take xs.length := by rw [← ht, List.take_take, Nat.min_eq_left hle2]
              rw [e1, hl]
              exact hr
            refine ⟨⟨⟨o', cap, hd, hle, hl, hnil, ?_, ?_⟩, ?_⟩, ?_⟩
            · intro u hu
              rw [← hr] at hu
              exact hone u (List.mem_of_mem_take hu)
            · intro hne
              obtain ⟨ho, hcne⟩ := key hne
              refine ⟨_, ho, fun j u hj => ?_⟩
              refine hs.reads hcs hcne j u ?_
              rw [← hr, List.getElem?_take] at hj
              split at hj
              · exact hj
              · cases hj
            · intro hne
              have hne : xs ≠ [] := by intro e0; subst e0; simp at hne
              obtain ⟨b, ty, cur, ha, hb, hh, ht⟩ := full hne
              exact ⟨b, cap, ty, cur, by rw [hd, (key hne).1, ha], hs.ge hfr hb, hh, ht⟩
            · intro b hb
              simp only [ResBlk] at hb
              split at hb
              · cases hb
              · rename_i hne
                have hne : xs ≠ [] := by intro e0; subst e0; simp at hne
                obtain ⟨b2, ty, cur, ha, hb2, _⟩ := full hne
                rw [hd, (key hne).1, ha] at hb
                simp only [Value.ownBlock, Option.some.injEq] at hb
                exact ⟨t, k, e, rfl, .inr ⟨0, n0, h1⟩, hM, by rw [hb2, hb]⟩
          · exact hr.elim
        · exact hr.elim
      · rename_i h2; cases h2
      · exact hr.elim

end
end Go.Sx
namespace Go.Sx
section
variable {P : Program}

theorem rets_run {w0 : Base} {ρ : Nat → Loc} {T : Nat → AV} {M : MemF} {N : Nat} {a : Act} {w : World} (h : SatS w0 ρ T M N a w) : ∀ {vs : List ResultVar} {rs : List Res}, retAll P T M vs rs → (retIds T vs).Nodup →
    ∃ zs, vs.length = zs.length ∧ (∀ (i : Nat) (v : ResultVar) (z : Value), vs[i]? = some v → zs[i]? = some z → (getRes a.tmps v).run P w = .ok z w) ∧ RessOK w w0.own rs zs ∧
      (∀ r z b, (r, z) ∈ rs.zip zs → ResBlk r z = some b → ∃ k e, k ∈ retIds T vs ∧ M k = some e ∧ e.blk (ρ k) = some b ∧ e.fresh = true) ∧
      (∀ (i : Nat) (F : Value → World → Prop) (z : Value), rs[i]? = some (.fa F) → zs[i]? = some z → ents M true (F z))
  | [], [], _, _ => ⟨[], rfl, by simp, trivial, by simp, by simp⟩
  | v :: vs, r :: rs, hr, hnd => by
    obtain ⟨z, hz, hro, hb, hfa⟩ := retA_run h hr.1
    have hnd' : (retIds T vs).Nodup := by
      cases v with
      | tmp t => simp only [retIds] at hnd; exact (List.nodup_append.1 hnd).2.1
      | cell t ty => exact hnd
    obtain ⟨zs, h1, h2, h3, h4, h5⟩ := rets_run h hr.2 hnd'
    have hfresh : ∀ k e b, M k = some e → e.blk (ρ k) = some b → w0.own b → True := fun _ _ _ _ _ _ => trivial
    have hb' : ∀ b, ResBlk r z = some b → ∃ k e t, v = .tmp t ∧ k ∈ (match T t with | .o (.r k _) => [k] | .o (.s k _ _) => [k] | _ => []) ∧ M k = some e ∧ e.blk (ρ k) = some b ∧ e.fresh = true := by
      intro b hbb
      obtain ⟨t, k, e, rfl, hT, hM, hbk⟩ := hb b hbb
      refine ⟨k, e, t, rfl, ?_, hM, hbk, ?_⟩
      · rcases hT with ⟨n, hT⟩ | ⟨off, n, hT⟩ <;> simp [hT]
      · have hr1 : resMatch M (T t) r := hr.1
        cases r with
        | val x => simp [ResBlk] at hbb
        | fa F => simp [ResBlk] at hbb
        | row e2 s2 n2 xs2 =>
          unfold resMatch at hr1
          split at hr1
          · rename_i h2; cases h2
          · rename_i h1 _; rw [h1] at hT; rcases hT with ⟨n, hT⟩ | ⟨off, n, hT⟩ <;> cases hT
          · rename_i h1 h2; rw [h1] at hT
            rcases hT with ⟨n, hT⟩ | ⟨off, n, hT⟩
            · cases hT; rw [hM] at hr1; simp only [Option.some.injEq] at hr1; subst hr1; rfl
            · cases hT
          · rename_i h2; cases h2
          · rename_i h2; cases h2
          · rename_i h2; cases h2
          · rename_i h2; cases h2
          · rename_i h2; cases h2
          · rename_i h2; cases h2
          · rename_i h2; cases h2
          · exact hr1.elim
        | part n2 s2 xs2 =>
          unfold resMatch at hr1
          split at hr1
          · rename_i h2; cases h2
          · rename_i h2; cases h2
          · rename_i h2; cases h2
          · rename_i h2; cases h2
          · rename_i h2; cases h2
          · rename_i h2; cases h2
          · rename_i h1 _; rw [h1] at hT; rcases hT with ⟨n, hT⟩ | ⟨off, n, hT⟩ <;> cases hT
          · rename_i h1 h2; rw [h1] at hT
            obtain ⟨e3, hr1⟩ := hr1
            rcases hT with ⟨n, hT⟩ | ⟨off, n, hT⟩
            · cases hT; rw [hM] at hr1; simp only [Option.some.injEq] at hr1; subst hr1; rfl
            · cases hT
          · rename_i h1 h2; rw [h1] at hT
            rcases hT with ⟨n, hT⟩ | ⟨off, n, hT⟩
            · cases hT
            · cases hT
              obtain ⟨_, _, hr1⟩ := hr1
              rw [hM] at hr1
              exact own_fresh hr1.1
          · rename_i h2; cases h2
          · exact hr1.elim
        | view n2 s2 xs2 =>
          unfold resMatch at hr1
          split at hr1
          · rename_i h2; cases h2
          · rename_i h2; cases h2
          · rename_i h2; cases h2
          · rename_i h1 _; rw [h1] at hT; rcases hT with ⟨n, hT⟩ | ⟨off, n, hT⟩ <;> cases hT
          · rename_i h1 h2; rw [h1] at hT
            obtain ⟨e3, hr1⟩ := hr1
            rcases hT with ⟨n, hT⟩ | ⟨off, n, hT⟩
            · cases hT; rw [hM] at hr1; simp only [Option.some.injEq] at hr1; subst hr1; rfl
            · cases hT
          · rename_i h1 h2; rw [h1] at hT
            rcases hT with ⟨n, hT⟩ | ⟨off, n, hT⟩
            · cases hT
            · cases hT
              obtain ⟨_, _, hr1⟩ := hr1
              rw [hM] at hr1
              exact hr1.1
          · rename_i h2; cases h2
          · rename_i h2; cases h2
          · rename_i h2; cases h2
          · rename_i h2; cases h2
          · exact hr1.elim
    refine ⟨z :: zs, by simp [h1], ?_, ⟨hro, h3, ?_⟩, ?_, ?_⟩
    · intro i v' z' hv hz'
      cases i with
      | zero => simp at hv hz'; subst hv hz'; exact hz
      | succ i => exact h2 i v' z' (by simpa using hv) (by simpa using hz')
    · intro b hbb r' z' hin hbb'
      obtain ⟨k, e, t, rfl, hk, hM, hbk, hf⟩ := hb' b hbb
      obtain ⟨k', e', hk', hM', hbk', hf'⟩ := h4 r' z' b hin hbb'
      simp only [retIds] at hnd
      have hne : k ≠ k' := (List.nodup_append.1 hnd).2.2 k hk k' hk'
      rcases h.mem.apart k e k' e' hM hf hM' hne with h0 | h0
      · rw [hbk] at h0; cases h0
      · exact h0 (by rw [hbk, hbk'])
    · intro r' z' b hin hbb
      simp only [List.zip_cons_cons, List.mem_cons, Prod.mk.injEq] at hin
      rcases hin with ⟨rfl, rfl⟩ | hin
      · obtain ⟨k, e, t, rfl, hk, hM, hbk, hf⟩ := hb' b hbb
        exact ⟨k, e, by simp only [retIds, List.mem_append]; exact .inl hk, hM, hbk, hf⟩
      · obtain ⟨k, e, hk, hM, hbk, hf⟩ := h4 r' z' b hin hbb
        refine ⟨k, e, ?_, hM, hbk, hf⟩
        cases v with
        | tmp t => simp only [retIds, List.mem_append]; exact .inr hk
        | cell t ty => exact hk
    · intro i F z' hi hz'
      cases i with
      | zero => simp at hi hz'; subst hz'; exact hfa F hi
      | succ i => exact h5 i F z' (by simpa using hi) (by simpa using hz')
  | [], _ :: _, h, _ => h.elim
  | _ :: _, [], h, _ => h.elim

theorem ress_weaken {w' : World} {new new' : Nat → Prop} (hn : ∀ b, new b → new' b) : ∀ {rs : List Res} {zs : List Value}, RessOK w' new rs zs → RessOK w' new' rs zs
  | [], [], _ => trivial
  | r :: rs, z :: zs, h => by
    refine ⟨?_, ress_weaken hn h.2.1, h.2.2⟩
    have h1 := h.1
    cases r with
    | val x => exact h1
    | fa F => exact h1
    | row e size n xs => exact ⟨h1.1, h1.2.1, fun b hb => hn b (h1.2.2 b hb)⟩
    | view n size xs => exact ⟨h1.1, fun b h2 hb => hn b (h1.2 b h2 hb)⟩
    | part n size xs => exact ⟨h1.1, fun h2 => let ⟨b, c, ty, cur, e1, e2, e3⟩ := h1.2 h2; ⟨b, c, ty, cur, e1, hn b e2, e3⟩⟩
  | [], _ :: _, h => h.elim
  | _ :: _, [], h => h.elim

theorem EntSat.mono {B B' : Nat → Prop} {l : Loc} {w : World} {e : Ent} (h : EntSat B l w e) (hB : ∀ b, B b → B' b) : EntSat B' l w e := by
  cases e with
  | box cs => exact ⟨h.1, fun hne => let ⟨b, ty, cur, h1, h2, h3⟩ := h.2 hne; ⟨b, ty, cur, h1, hB b h2, h3⟩⟩
  | row e size n xs => exact ⟨h.1, h.2.1, h.2.2.1, fun b hb => hB b (h.2.2.2 b hb)⟩
  | view fr xs => exact ⟨h.1, h.2.1, fun h1 h2 => hB _ (h.2.2 h1 h2)⟩
  | hdr cs => exact fun hne => let ⟨b, ty, cur, h1, h2, h3⟩ := h hne; ⟨b, ty, cur, h1, hB b h2, h3⟩
  | sav j l => trivial
  | fact rt F => trivial
  | dead => trivial
/-- Blocks that hold no cells are written: what is told of memory stays. -/
theorem SatM.aside {w0 w1 : Base} {ρ : Nat → Loc} {M : MemF} {w w' : World} {bs : Nat → Prop} (h : SatM w0 ρ M w) (f : Fr w w' bs) (hbs : ∀ b, bs b → ∀ cur ty c, w.heap[b]? ≠ some (.cells cur ty c)) (ho : ∀ b, (∃ cur ty c, w.heap[b]? = some (.cells cur ty c)) → w0.own b → w1.own b)
    (hs : ∀ k j l, M k = some (.sav j l) → w1.sv j = w0.sv j) (hF : ∀ k r F, M k = some (.fact r F) → ∀ w3, Fr w1.w w3 (w1.st r) → F w3) : SatM w1 ρ M w' := by
  have hno : ∀ k e, M k = some e → ∀ b, e.blk (ρ k) = some b → ¬ bs b := by
    intro k e hk b hb hbb
    obtain ⟨cur, ty, c, hc⟩ := (h.ent k e hk).isCells hb
    exact hbs b hbb _ _ _ hc
  have hmono : ∀ k e, M k = some e → EntSat w1.own (ρ k) w e := by
    intro k e hk
    have he := h.ent k e hk
    cases e with
    | box cs => exact ⟨he.1, fun hne => let ⟨b, ty, cur, h1, h2, h3, h4⟩ := he.2 hne; ⟨b, ty, cur, h1, ho b ⟨_, _, _, h3⟩ h2, h3, h4⟩⟩
    | row e size n xs => exact ⟨he.1, he.2.1, he.2.2.1, fun b hb => ho b (he.isCells hb) (he.2.2.2 b hb)⟩
    | view fr xs => exact ⟨he.1, he.2.1, fun h1 h2 => ho _ (he.isCells (b := (ρ k).a.block) (by simp only [Ent.blk, h2]; rfl)) (he.2.2 h1 h2)⟩
    | hdr cs => exact fun hne => let ⟨b, ty, cur, h1, h2, h3, h4⟩ := he hne; ⟨b, ty, cur, h1, ho b ⟨_, _, _, h3⟩ h2, h3, h4⟩
    | sav j l => trivial
    | fact rt F => trivial
    | dead => trivial
  refine ⟨fun k e hk => (hmono k e hk).frame f (hno k e hk), fun k cs hk => h.hdr_keep f (fun k hk => ⟨hk, rfl⟩) hk (hno k _ hk), fun k j l hk => ?_, h.apart, hF⟩
  rw [hs k j l hk]
  exact h.sav k j l hk
/-- What is said stays so in a base that may write no more. -/
theorem st_trans {w0 w1 : Base} {w w3 : World} {r : Bool} (hb : Fr w0.w w w0.own) (hw : ∀ k, k < w0.w.heap.size → ¬ w0.own k → ¬ aside w0.w k → w1.w.heap[k]? = w.heap[k]?) (h1 : w1.w.os = w.os ∧ w1.w.tape = w.tape ∧ w1.w.output = w.output ∧ w.heap.size ≤ w1.w.heap.size ∧ w.drawn ≤ w1.w.drawn) (ho : ∀ b, w1.own b → w0.own b ∨ aside w0.w b) (hh : w1.hid = w0.hid)
    (f : Fr w1.w w3 (w1.st r)) : Fr w0.w w3 (w0.st r) := by
  refine ⟨f.os.trans (h1.1.trans hb.os), f.tape.trans (h1.2.1.trans hb.tape), f.output.trans (h1.2.2.1.trans hb.output), Nat.le_trans hb.size (Nat.le_trans h1.2.2.2.1 f.size), Nat.le_trans hb.drawn (Nat.le_trans h1.2.2.2.2 f.drawn), fun k hk hn => ?_⟩
  have n1 : ¬ w0.own k := fun x => hn (.inl x)
  have n2 : ¬ aside w0.w k := fun x => hn (.inr (.inr x))
  have e1 := hb.block k hk n1
  have e2 := hw k hk n1 n2
  refine (f.block k (Nat.lt_of_lt_of_le (Nat.lt_of_lt_of_le hk hb.size) h1.2.2.2.1) ?_).trans (e2.trans e1)
  rintro (x | ⟨x, y⟩ | ⟨o, x, y⟩)
  · exact (ho k x).elim n1 n2
  · exact hn (.inr (.inl ⟨x, by rw [← hh]; exact y⟩))
  · exact n2 ⟨o, by rw [← e1, ← e2]; exact x, y⟩
/-- The base when the marks have been taken. -/
structure Left (g w0 w1 : Base) (w' : World) (bs : Nat → Prop) : Prop where
  w : w1.w = w'
  own : ∀ b, w1.own b → g.own b
  iff : ∀ b, w1.own b ↔ (w0.own b ∨ bs b)
  sv : w1.sv = g.sv
  df : w1.df = g.df
  hid : w1.hid = g.hid
  below : Fr g.w w' g.own
theorem SatS.leave {g w0 : Base} (hx : Ext g w0) {ρ : Nat → Loc} {T : Nat → AV} {M : MemF} {N : Nat} {a : Act} {w w' : World} {bs : Nat → Prop} (h : SatS w0 ρ T M N a w) (f : Fr w w' bs)
    (hbs : ∀ b, bs b → g.own b ∧ aside w0.w b ∧ ∀ cur ty c, w.heap[b]? ≠ some (.cells cur ty c)) : ∃ w1, Left g w0 w1 w' bs ∧ SatS w1 ρ T M N ⟨a.tmps, g.df⟩ w' := by
  have hb1 : Fr g.w w g.own := h.below.below hx.below hx.own
  let w1 : Base := ⟨w', fun b => w0.own b ∨ bs b, fun b hb => .inl (w0.new b (Nat.le_trans h.below.size (Nat.le_trans f.size hb))), g.sv, g.df, g.hid, fun b hb => g.dis b (hb.elim (hx.own b) fun x => (hbs b x).1)⟩
  refine ⟨w1, ⟨rfl, fun b hb => hb.elim (hx.own b) fun x => (hbs b x).1, fun b => Iff.rfl, rfl, rfl, rfl, f.below hb1 fun b hb => (hbs b hb).1⟩, Fr.refl _ _, ?_, h.slot, h.size, rfl⟩
  refine h.mem.aside f (fun b hb => (hbs b hb).2.2) (fun b _ hb => .inl hb) (fun _ _ _ _ => by show g.sv _ = _; rw [hx.sv]) (fun k r F hk w3 f3 => ?_)
  refine h.mem.fct k r F hk w3 (st_trans (w1 := w1) h.below (fun k hk n1 n2 => f.block k (Nat.lt_of_lt_of_le hk h.below.size) fun x => n2 (hbs k x).2.1) ⟨f.os, f.tape, f.output, f.size, f.drawn⟩ (fun b hb => hb.imp (fun x => x) fun x => (hbs b x).2.1) (by show g.hid = _; rw [hx.hid]) f3)

theorem leave_marks {fn : Func} {tmps : Array Value} {R : Ending → World → Prop} : ∀ (Ds : List Nat) (w : World), Ds.Nodup → (∀ D ∈ Ds, w.heap[D]? = some (.deferred (some []))) →
    (∀ w', Fr w w' (· ∈ Ds) → ∃ v, (results fn tmps).run P w' = .ok v w' ∧ R (.returned v) w') → LeavesInM Fence.wide 0 P fn tmps R (Ds.map markD) .returning w
  | [], w, _, _, h => h w (Fr.refl _ _)
  | D :: Ds, w, hnd, hD, h => by
    have hd := hD D (by simp)
    have hne : ∀ D' ∈ Ds, D' ≠ D := fun D' h1 h2 => (List.nodup_cons.1 hnd).1 (h2 ▸ h1)
    refine ⟨by simp, .inl ⟨D, w.putObj D (.deferred none), rfl, run_takeDeferred hd, leave_marks Ds _ (List.nodup_cons.1 hnd).2 (fun D' h1 => ?_) fun w' hf => h w' ?_⟩⟩
    · rw [World.putObj_heap_other (hne D' h1)]
      exact hD D' (by simp [h1])
    · have f1 : Fr w (w.putObj D (.deferred none)) (· = D) := ⟨rfl, rfl, rfl, by simp, Nat.le_refl _, fun k _ hk => World.putObj_heap_other hk⟩
      exact (hf.mono (fun k hk => by simp [hk])).below (f1.mono (fun k hk => by simp [hk])) (fun k hk => hk)

/-- A piece of code outside of all rounds. -/
def SV0 (P : Program) (Q : St → Prop) (c : Code) (k : List Frm) (st : St) : Prop := ∀ g ρ a w, SatN g ρ st a w → c.wpIn (FW none) 0 P (PostS P Q g k) a w
theorem sv0_run {Q : St → Prop} {c : Code} {k : List Frm} {st : St} (hm : P.follows .mixedOrders = true) (hk : noOps k) (n : Nat) (h : vcx P Q n (.code c :: k) st) : SV0 P Q c k st := by
  rw [vcx_eq] at h
  have h1 := vcs_sound hm n (.code c :: k) st (by exact hk) h
  rw [SVX_code] at h1
  exact fun g ρ a w hs => h1 none g ρ a w hs
/-- No row is written in place. -/
def noIo : List Arg → Prop
  | [] => True
  | .io .. :: _ => False
  | .ib .. :: _ => False
  | _ :: l => noIo l
theorem noIo_at : ∀ {as : List Arg} {i : Nat} {a : Arg}, noIo as → as[i]? = some a → isIo a = false
  | [], _, _, _, h => by simp at h
  | b :: as, 0, a, hn, h => by
    simp at h
    subst h
    cases b <;> first | rfl | exact hn.elim
  | b :: as, i + 1, a, hn, h => by
    have hn' : noIo as := by cases b <;> first | exact hn | exact hn.elim
    exact noIo_at hn' (by simpa using h)
theorem noIo_ok {as : List Arg} {w' : World} {ys zs : List Value} {rs : List Res} (h : noIo as) : iosOK w' as ys rs zs := by
  intro i a y h1 h2
  have h3 := noIo_at h h1
  refine ⟨?_, fun h4 => by rw [h3] at h4; cases h4⟩
  cases a <;> first | trivial | cases h3
/-- Rows written in place: what they hold at the end. -/
def ioAll (M : MemF) : Nat → List Arg → Prop
  | _, [] => True
  | i, .io e size n _ ys :: l => M i = some (.row e size n ys) ∧ ioAll M (i + 1) l
  | i, .ib _ ys :: l => (M i = some (.box ys) ∧ ys.isEmpty = false) ∧ ioAll M (i + 1) l
  | i, _ :: l => ioAll M (i + 1) l
def ioIds : Nat → List Arg → List Nat
  | _, [] => []
  | i, .io .. :: l => i :: ioIds (i + 1) l
  | i, .ib .. :: l => i :: ioIds (i + 1) l
  | i, _ :: l => ioIds (i + 1) l
def RetIo (P : Program) (vars : List ResultVar) (as : List Arg) (rs : List Res) (st : St) : Prop :=
  RetQ P vars rs st ∧ ioAll st.m.get 0 as ∧ (∀ k ∈ retIds st.T vars, k ∉ ioIds 0 as) ∧ st.m.get as.length = some (.sav 0 (argA 0 as))
theorem resF_of {w w' : World} {C : Nat → Prop} {as : List Arg} {ys : List Value} {rs : List Res} {zs : List Value} {g w0 w1 : Base} {bs : Nat → Prop} {ρ : Nat → Loc} {T : Nat → AV} {M : MemF} {N : Nat} {a : Act} (hl : Left g w0 w1 w' bs) (hs : SatS w1 ρ T M N a w')
    (hgo : ∀ b, g.own b ↔ (w.heap.size ≤ b ∨ moved as ys b)) (hgh : g.hid = fun b => C b ∧ ¬ (w.heap.size ≤ b ∨ moved as ys b)) (z3 : RessOK w' w1.own rs zs)
    (hz : ∀ (i : Nat) (F : Value → World → Prop) (z : Value), rs[i]? = some (.fa F) → zs[i]? = some z → ents M true (F z))
    (hio : ∀ (j : Nat) (a : Arg) (y : Value) (b : Nat), as[j]? = some a → ys[j]? = some y → isIo a = true → movedBlk a y = some b → w1.own b) : resF w w' C as ys rs zs := by
  refine ⟨fun b => g.own b ∧ ¬ w1.own b, fun b hb => (hgo b).1 hb.1, fun j r z b hj hzj hb hn => hn.2 ?_, fun j a y b h1 h2 h3 h4 hn => hn.2 (hio j a y b h1 h2 h3 h4), fun j F z hj hzj w'' f => ?_⟩
  · have h1 := ress_at z3 hj hzj
    cases r with
    | val x => simp [ResBlk] at hb
    | fa F => simp [ResBlk] at hb
    | row e size n xs => exact h1.2.2 b hb
    | view n size xs =>
      simp only [ResBlk] at hb
      split at hb
      · cases hb
      · rename_i hne
        exact h1.2 b (by simpa using hne) hb
    | part n size xs =>
      simp only [ResBlk] at hb
      split at hb
      · cases hb
      · rename_i hne
        obtain ⟨b2, c, ty, cur, rfl, hn2, _⟩ := h1.2 (by simpa using hne)
        simp only [Value.ownBlock, Option.some.injEq] at hb
        exact hb ▸ hn2
  · refine ents_at hs.mem (hz j F z hj hzj) ?_
    rw [hl.w]
    refine f.mono fun b hb => ?_
    rcases hb with ⟨h1, h2⟩ | h1
    · have h2 : ¬ (g.own b ∧ ¬ w1.own b) := h2
      by_cases hg : g.own b
      · exact .inl (Classical.byContradiction fun h3 => h2 ⟨hg, h3⟩)
      · refine .inr (.inl ⟨rfl, ?_⟩)
        rw [hl.hid, hgh]
        have hg' : ¬ (w.heap.size ≤ b ∨ moved as ys b) := fun x => hg ((hgo b).2 x)
        exact ⟨by rcases h1 with h1 | h1 | h1
                  · exact absurd (.inl h1) hg'
                  · exact absurd (.inr h1) hg'
                  · exact h1, hg'⟩
    · exact .inr (.inr (by rw [hl.w]; exact h1))
/-- A contract, of what is shown of a function's code. -/
theorem contract_of0 {f : Nat} {fn : Func} {c : Code} {N : Nat} {vars : List ResultVar} (hf : P.funcs[f]? = some fn) (hb : fn.body = some c) (hN : fn.ntmps = N) (hv : fn.results.toList = vars) (hname : (fn.name == "runtime.NumGoroutine") = false)
    (as : List Arg) (rs : List Res) (hio : noIo as)
    (h : SV0 P (RetQ P vars rs) c [] ⟨argA 0 as ++ List.replicate (N - as.length) (.o (.v undef)), argE 0 as, as.length⟩) : Contract P f as rs := by
  refine .inl ⟨callable_of hf (by rw [hb]; rfl) hname, fun w ys C hargs hap hfa => ?_⟩
  obtain ⟨ρ, hs⟩ := start_sat hargs hap hfa N
  refine callsIn_wide.1 (callsIn_of_wp_marks (F := Fence.wide) (n := 0) hf hb trivial ?_ rfl)
  rw [hN]
  refine wpIn_mono (show c.wpIn Fence.wide 0 P _ _ w from h _ ρ _ w hs) ?_
  rintro e a' w' ⟨ρ', st', ⟨w0, hx, hs'⟩, he⟩
  have fin : RetQ P vars rs st' → LeavesInM Fence.wide 0 P fn a'.tmps (fun e w' => ∃ zs, e = Ending.returned (pack zs) ∧ Fr w w' (moved as ys) ∧ RessOK w' (fun b => w.heap.size ≤ b ∨ moved as ys b) rs zs ∧ iosOK w' as ys rs zs ∧ resF w w' C as ys rs zs) a'.defers .returning w' := by
    rintro ⟨hr, hnd⟩
    obtain ⟨Ds, hdf, hnd', hD⟩ := hx.df
    have hdf : w0.df = Ds.map markD := by rw [hdf]; exact List.append_nil _
    rw [hs'.1.defers, hdf]
    have hkeep : ∀ D ∈ Ds, w'.heap[D]? = some (.deferred (some [])) := fun D h1 => by
      obtain ⟨h2, h3, _, h4⟩ := hD D h1
      rw [hs'.1.below.block D h2 h3]; exact h4
    refine leave_marks Ds w' hnd' hkeep fun w'' hf' => ?_
    obtain ⟨w1, hlf, hl⟩ := hs'.1.leave hx hf' fun b hb => ⟨(hD b hb).2.2.1, ⟨_, (hD b hb).2.2.2, rfl⟩, fun cur ty c hc => by rw [hkeep b hb] at hc; cases hc⟩
    obtain ⟨zs, z1, z2, z3, _, z5⟩ := rets_run hl hr hnd
    refine ⟨pack zs, results_run (by rw [hv]; exact z1) (by rw [hv]; exact z2), zs, rfl, ?_, ress_weaken (fun b hb => hlf.own b hb) z3, noIo_ok hio, resF_of hlf hl (fun b => Iff.rfl) rfl z3 z5 (fun j a y b h1 _ h3 => by rw [noIo_at hio h1] at h3; cases h3)⟩
    have hb := hlf.below
    exact ⟨hb.os, hb.tape, hb.output, hb.size, hb.drawn, fun k hk hn => hb.block k hk (fun hx => hx.elim (fun h1 => absurd hk (Nat.not_lt.2 h1)) hn)⟩
  cases e with
  | normal => exact fin he
  | ret => exact fin he
  | _ => exact he.elim

/-- A contract, of what is shown of a function's code. -/
theorem contract_of {f : Nat} {fn : Func} {c : Code} {N : Nat} {vars : List ResultVar} (hf : P.funcs[f]? = some fn) (hb : fn.body = some c) (hN : fn.ntmps = N) (hv : fn.results.toList = vars) (hname : (fn.name == "runtime.NumGoroutine") = false)
    (hm : P.follows .mixedOrders = true) (as : List Arg) (rs : List Res) (hn : noIo as) (n : Nat)
    (h : vcx P (RetQ P vars rs) n [.code c] ⟨argA 0 as ++ List.replicate (N - as.length) (.o (.v undef)), argE 0 as, as.length⟩) : Contract P f as rs :=
  contract_of0 hf hb hN hv hname as rs hn (sv0_run hm trivial n h)

end
end Go.Sx
