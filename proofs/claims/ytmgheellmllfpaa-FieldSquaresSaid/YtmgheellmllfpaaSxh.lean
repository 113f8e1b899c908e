/-
  The machine's code: what is to be shown of a piece of code from an abstract state (vcs), and what that means (SV). No conditions.
-/
import Derived.Test.YtmgheellmllfpaaSxg
namespace Go.Sx

structure St where
  t : List AV
  m : Mem
  n : Nat

def St.T (st : St) : Nat → AV := fun i => st.t.getD i (.o .any)
def updm : Mem → Mem → Mem
  | [], m => m
  | x :: ws, m => m.map fun y => (y.1, ((Mem.get (x :: ws) y.1).getD y.2))
def setd (t : List AV) : Option Nat → AV → List AV
  | some d, r => t.set d r
  | none, _ => t
def St.put (st : St) (d : Option Nat) (u : Upd) : St := ⟨setd st.t d u.r, u.cr ++ updm u.wr st.m, st.n + 4⟩
def St.see (st : St) (d : Nat) (b : Bool) : St := ⟨st.t.set d (.o (.v (.bool b))), st.m, st.n⟩

inductive Frm where
  | code (c : Code)
  | block (id : Nat)
  | ops (dr : Bool) (all rest : List Oper)
  | stop (K : St → Prop)

def gslot (all : List Oper) (j : Nat) : Option Nat := (all[j]?).bind (·.dst)

/-! the static look at a region that draws its order -/
def maskOf (acc : List Nat) (o : Oper) : Nat := o.after.toList.foldl (fun s e => if Region.binds .any e then s ||| 2 ^ e.on ||| acc.getD e.on 0 else s) 0
def masks : List Oper → List Nat → List Nat
  | [], acc => acc
  | o :: l, acc => masks l (acc ++ [maskOf acc o])
def cls : Op → Nat
  | .load .. => 1
  | .alloc _ => 1
  | .box .. => 1
  | .buildSlice .. => 1
  | .makeSlice .. => 1
  | .store .. => 2
  | .call c => match c.callee with
    | .builtin .append => 3
    | .value _ => 1
    | _ => 0
  | _ => 0
def pairOK (all : List Oper) (bef : Bool) (i j : Oper) : Bool :=
  (bef || !((decide (2 ≤ cls i.op) && decide (1 ≤ cls j.op)) || (decide (1 ≤ cls i.op) && decide (2 ≤ cls j.op)))) &&
  (match i.dst with
   | some d => i.dst != j.dst && (bef || !(j.looksAt all.toArray).contains d)
   | none => true) &&
  (match j.dst with
   | some d => bef || !(i.looksAt all.toArray).contains d
   | none => true)
def oneOK (j : Nat) (o : Oper) (mask : Nat) : Bool :=
  cls o.op != 3 && (match o.op with | .select .. => false | _ => true) && (o.after.toList.all fun e => !(Region.binds .any e) || decide (e.on < j)) &&
  (match o.guard with
   | some (g, _) => decide (g < j) && mask.testBit g
   | none => true)
def orderOK (all : List Oper) : Bool :=
  (List.range all.length).all fun j => match all[j]? with
    | none => false
    | some oj => oneOK j oj ((masks all []).getD j 0) && (List.range j).all fun i => match all[i]? with
      | none => false
      | some oi => pairOK all (((masks all []).getD j 0).testBit i) oi oj

section
variable (P : Program) (Q : St → Prop)

def opVC (dr : Bool) (st : St) (op : Op) (k : Upd → Prop) : Prop :=
  match opEff P st.T st.m.get st.n op with
  | .fail => False
  | .ok c u => c ∧ k u
  | .ex S => ∃ z, S z ∧ k (val z)
  | .call f args => ∃ as rs, Contract P f as rs ∧ argsMatch st.m.get args as ∧ rs.length ≤ 4 ∧ apartIds args as ∧ (dr = true → movedE args as = []) ∧
      k ⟨packA (ressA st.n rs), ressE st.n rs, movedE args as⟩

/-- What is left of a stack after it was left by 'exit id'. -/
def pop : List Frm → Nat → Option (List Frm)
  | [], _ => none
  | .block j :: k, id => if id = j then some k else pop k id
  | _ :: k, id => pop k id

/-- Meaning: from every real state that st tells of, the stack can be run. -/
def SVX : List Frm → (St → Prop) × (Nat → St → Prop)
  | [] => (Q, fun _ _ => False)
  | .stop K :: k => (K, (SVX k).2)
  | .block j :: k => ((SVX k).1, fun id st => if id = j then (SVX k).1 st else (SVX k).2 id st)
  | .ops _ _ _ :: k => (fun _ => False, (SVX k).2)
  | .code c :: k => (fun st => ∀ w0 ρ a w, SatS w0 ρ st.T st.m.get st.t.length a w → (∀ j, (st.m.get j).isSome = true → j < st.n) →
      c.wp P (fun e a' w' => ∃ ρ' st', SatS w0 ρ' st'.T st'.m.get st'.t.length a' w' ∧ (∀ j, (st'.m.get j).isSome = true → j < st'.n) ∧
        match e with
        | .normal => (SVX k).1 st'
        | .exit id => (SVX k).2 id st'
        | .ret => Q st'
        | _ => False) a w, (SVX k).2)

def SatN (w0 : World) (ρ : Nat → Loc) (st : St) (a : Act) (w : World) : Prop := SatS w0 ρ st.T st.m.get st.t.length a w ∧ ∀ j, (st.m.get j).isSome = true → j < st.n
def PostS (w0 : World) (k : List Frm) (e : Exit) (a : Act) (w : World) : Prop :=
  ∃ ρ st, SatN w0 ρ st a w ∧ match e with
    | .normal => (SVX P Q k).1 st
    | .exit id => (SVX P Q k).2 id st
    | .ret => Q st
    | _ => False

/-- The loop, from st, with k behind it. -/
def LoopVC (c : Code) (k : List Frm) (st : St) : Prop := (SVX P Q (.code (.loop c) :: k)).1 st

def vcs : Nat → List Frm → St → Prop
  | 0, _, _ => False
  | _ + 1, [], st => Q st
  | _ + 1, .stop K :: _, st => K st
  | n + 1, .block _ :: k, st => vcs n k st
  | n + 1, .ops _ _ [] :: k, st => vcs n k st
  | n + 1, .ops dr all (⟨d, op, _, _, _, g⟩ :: rest) :: k, st => match g with
    | none => opVC P dr st op fun u => vcs n (.ops dr all rest :: k) (st.put d u)
    | some (j, want) => match gslot all j with
      | none => False
      | some s => match st.T s with
        | .o (.v (.bool b)) => (b = want → opVC P dr (st.see s want) op fun u => vcs n (.ops dr all rest :: k) ((st.see s want).put d u)) ∧
            (b = !want → vcs n (.ops dr all rest :: k) ((st.see s (!want)).put d ⟨.o (.v undef), [], []⟩))
        | _ => False
  | n + 1, .code c :: k, st => match c with
    | .skip => vcs n k st
    | .region _ ops dr => (dr = true → orderOK ops.toList = true) ∧ vcs n (.ops dr ops.toList ops.toList :: k) st
    | .seq a b => vcs n (.code a :: .code b :: k) st
    | .cond c a b => match ev st.T c with
      | .o (.v (.bool t)) => (t = true → vcs n (.code a :: k) st) ∧ (t = false → vcs n (.code b :: k) st)
      | _ => False
    | .block id c => vcs n (.code c :: .block id :: k) st
    | .loop c => LoopVC P Q c k st
    | .exit id => match pop k id with
      | some k' => vcs n k' st
      | none => False
    | .ret => Q st
    | _ => False
end

section
variable {P : Program} {Q : St → Prop}

theorem pop_SVX : ∀ {k k' : List Frm} {id : Nat} {st : St}, pop k id = some k' → (SVX P Q k').1 st → (SVX P Q k).2 id st
  | [], _, _, _, h, _ => by simp [pop] at h
  | .block j :: k, k', id, st, h, hs => by
    simp only [pop] at h
    show if id = j then (SVX P Q k).1 st else (SVX P Q k).2 id st
    split at h
    · rename_i e; simp only [Option.some.injEq] at h; subst h; simp [e, hs]
    · rename_i e; simp only [e, if_false]; exact pop_SVX h hs
  | .stop K :: k, _, _, _, h, hs => pop_SVX (k := k) h hs
  | .ops _ _ _ :: k, _, _, _, h, hs => pop_SVX (k := k) h hs
  | .code _ :: k, _, _, _, h, hs => pop_SVX (k := k) h hs

theorem get_append (a b : Mem) (k : Nat) : Mem.get (a ++ b) k = match a.get k with | some e => some e | none => b.get k := by
  induction a with
  | nil => rfl
  | cons x a ih =>
    obtain ⟨j, e⟩ := x
    simp only [List.cons_append, Mem.get]
    split
    · rfl
    · exact ih
theorem get_updm (ws m : Mem) (k : Nat) : Mem.get (updm ws m) k = match m.get k with | none => none | some e0 => match ws.get k with | some e => some e | none => some e0 := by
  cases ws with
  | nil => simp only [updm, Mem.get]; cases m.get k <;> rfl
  | cons x ws =>
    simp only [updm]
    generalize x :: ws = wr
    induction m with
    | nil => rfl
    | cons y m ih =>
      obtain ⟨j, e⟩ := y
      simp only [List.map_cons, Mem.get]
      split
      · rename_i h; subst h; cases Mem.get wr k <;> rfl
      · exact ih
theorem get_put (st : St) (d : Option Nat) (u : Upd) : (st.put d u).m.get = applyM st.m.get u := by
  funext k
  simp only [St.put, get_append, get_updm, applyM]
  rfl

theorem put_tmps (a : Act) (d : Option Nat) (y : Value) (i : Nat) : (a.put d y).tmps.getD i undef = if d = some i ∧ i < a.tmps.size then y else a.tmps.getD i undef := by
  cases d with
  | none => simp [Act.put]
  | some d =>
    simp only [Act.put, Array.getD_eq_getD_getElem?, Array.getElem?_setIfInBounds, Option.some.injEq]
    by_cases h : d = i
    · subst h
      by_cases h2 : d < a.tmps.size <;> simp [h2]
    · simp [h]
theorem setd_getD (t : List AV) (d : Option Nat) (r : AV) (i : Nat) : (setd t d r).getD i (.o .any) = if d = some i ∧ i < t.length then r else t.getD i (.o .any) := by
  cases d with
  | none => simp [setd]
  | some d =>
    simp only [setd, List.getD_eq_getElem?_getD, List.getElem?_set, Option.some.injEq]
    by_cases h : d = i
    · subst h
      by_cases h2 : d < t.length <;> simp [h2]
    · simp [h]
theorem setd_length (t : List AV) (d : Option Nat) (r : AV) : (setd t d r).length = t.length := by cases d <;> simp [setd]

/-- One operation's outcome, put into the state. -/
theorem SatN.put {w0 : World} {ρ : Nat → Loc} {st : St} {a : Act} {w : World} (h : SatN w0 ρ st a w) {d : Option Nat} {u : Upd} {y : Value} {w' : World} {ρ' : Nat → Loc}
    (hρ : ∀ k, k < st.n → ρ' k = ρ k) (hcr : ∀ k e, u.cr.get k = some e → k < st.n + 4) (hm : SatM w0.heap.size ρ' (applyM st.m.get u) w') (hb : RowKit.Below w0.heap.size w0 w') (hd : Den ρ' (applyM st.m.get u) u.r y) :
    SatN w0 ρ' (st.put d u) (a.put d y) w' := by
  obtain ⟨h, hid⟩ := h
  refine ⟨⟨hb, by rw [get_put]; exact hm, fun i => ?_, ?_, ?_⟩, ?_⟩
  · rw [get_put, put_tmps]
    simp only [St.T, St.put, setd_getD]
    have hsz : a.tmps.size = st.t.length := h.size
    rw [hsz]
    split
    · exact hd
    · exact (h.slot i).mono fun k hk => ⟨live_applyM hk, hρ k (hid k hk)⟩
  · simp only [St.put, setd_length]
    rw [← h.size]
    cases d <;> simp [Act.put]
  · cases d <;> simp [Act.put, h.defers]
  · intro j hj
    rw [get_put] at hj
    simp only [St.put]
    unfold applyM at hj
    split at hj
    · rename_i e he; exact hcr j e he
    · split at hj
      · simp at hj
      · rename_i e0 he0; have := hid j (by simp [he0]); omega

theorem see_same {st : St} {s : Nat} {b : Bool} (h : st.T s = .o (.v (.bool b))) : st.see s b = st := by
  have hlt : s < st.t.length := by
    rcases Nat.lt_or_ge s st.t.length with h' | h'
    · exact h'
    · simp [St.T, List.getD_eq_getElem?_getD, List.getElem?_eq_none h'] at h
  unfold St.see
  have : st.t.set s (.o (.v (.bool b))) = st.t := by
    apply List.ext_getElem?
    intro i
    rw [List.getElem?_set]
    split
    · rename_i e; subst e
      simp only [St.T, List.getD_eq_getElem?_getD, List.getElem?_eq_getElem hlt, Option.getD_some] at h
      rw [List.getElem?_eq_getElem hlt, h]
    · rfl
  rw [this]

theorem ressE_ids {rs : List Res} {j k : Nat} {e : Ent} (h : (ressE j rs).get k = some e) : k < j + rs.length := by
  obtain ⟨h1, r, h2, _⟩ := ressE_get h
  have := (List.getElem?_eq_some_iff.1 h2).1
  omega
theorem opEff_ids {T : Nat → AV} {M : MemF} {id : Nat} {op : Op} {c : Prop} {u : Upd} (he : opEff P T M id op = .ok c u) : ∀ k e, u.cr.get k = some e → k = id := by
  have key : ∀ (x : Ent) k e, Mem.get [(id, x)] k = some e → k = id := by
    intro x k e h
    simp only [Mem.get] at h
    split at h
    · assumption
    · cases h
  have key0 : ∀ k e, Mem.get [] k = some e → k = id := by intro k e h; cases h
  cases op <;> simp only [opEff, binOn] at he <;> try (repeat' split at he)
  all_goals first
    | (cases he; done)
    | (simp only [Eff.ok.injEq] at he; obtain ⟨_, rfl⟩ := he; first | exact key _ | exact key0)
    | ((unfold loadEff at he; repeat' split at he) <;> first | (cases he; done) | (simp only [Eff.ok.injEq] at he; obtain ⟨_, rfl⟩ := he; exact key0))
    | ((unfold storeEff at he; repeat' split at he) <;> first | (cases he; done) | (simp only [Eff.ok.injEq] at he; obtain ⟨_, rfl⟩ := he; exact key0))
    | ((unfold sliceEff at he; repeat' split at he) <;> first | (cases he; done) | (simp only [Eff.ok.injEq] at he; obtain ⟨_, rfl⟩ := he; exact key0))
    | ((unfold binEff at he; repeat' split at he) <;> first | (cases he; done) | (simp only [Eff.ok.injEq] at he; obtain ⟨_, rfl⟩ := he; exact key0))

theorem opOK_ids {T : Nat → AV} {M : MemF} {id : Nat} {op : Op} {u : Upd} (h : OpOK P T M id op u) : ∀ k e, u.cr.get k = some e → id ≤ k ∧ k < id + 4 := by
  intro k e hk
  unfold OpOK at h
  split at h
  · exact h.elim
  · rename_i c u' he
    obtain ⟨_, rfl⟩ := h
    have := opEff_ids he k e hk
    omega
  · obtain ⟨z, _, rfl⟩ := h; simp [val, Mem.get] at hk
  · obtain ⟨as, rs, _, _, hle, _, rfl⟩ := h
    have h1 := (ressE_get hk).1
    have h2 := ressE_ids hk
    omega

theorem opVC_spec {dr : Bool} {st : St} {op : Op} {k : Upd → Prop} (h : opVC P dr st op k) : ∃ u, OpOK P st.T st.m.get st.n op u ∧ k u ∧ (dr = true → cls op = 1 → u.wr = []) := by
  have hwr : ∀ c u, opEff P st.T st.m.get st.n op = .ok c u → cls op = 1 → u.wr = [] := by
    intro c u he hc
    cases op <;> simp only [cls] at hc <;> try (cases hc; done)
    all_goals simp only [opEff] at he <;> try (repeat' split at he)
    all_goals first
      | (cases he; done)
      | (simp only [Eff.ok.injEq] at he; obtain ⟨_, rfl⟩ := he; rfl)
      | ((unfold loadEff at he; repeat' split at he) <;> first | (cases he; done) | (simp only [Eff.ok.injEq] at he; obtain ⟨_, rfl⟩ := he; rfl))
      | (simp_all; done)
  unfold opVC at h
  split at h
  · exact h.elim
  · rename_i c u he; exact ⟨u, by unfold OpOK; rw [he]; exact ⟨h.1, rfl⟩, h.2, fun _ => hwr c u he⟩
  · rename_i S he; obtain ⟨z, h1, h2⟩ := h; exact ⟨val z, by unfold OpOK; rw [he]; exact ⟨z, h1, rfl⟩, h2, fun _ _ => rfl⟩
  · rename_i f args he
    obtain ⟨as, rs, h1, h2, h3, h4, h5, h6⟩ := h
    exact ⟨_, by unfold OpOK; rw [he]; exact ⟨as, rs, h1, h2, h3, h4, rfl⟩, h6, fun hd _ => h5 hd⟩

/-- An operation of a region that keeps the text's order, or any other, may run. -/
def runs (all : List Oper) (st : St) (o : Oper) : Prop := o.guard = none ∨ ∃ j want s, o.guard = some (j, want) ∧ gslot all j = some s ∧ st.T s = .o (.v (.bool want))
def skips (all : List Oper) (st : St) (o : Oper) : Prop := ∃ j want s, o.guard = some (j, want) ∧ gslot all j = some s ∧ st.T s = .o (.v (.bool (!want)))
def undU : Upd := ⟨.o (.v undef), [], []⟩

theorem vcs_op {dr : Bool} {all rest : List Oper} {k : List Frm} {o : Oper} {n : Nat} {st : St} (h : vcs P Q (n + 1) (.ops dr all (o :: rest) :: k) st) :
    (runs all st o ∧ ∃ u, OpOK P st.T st.m.get st.n o.op u ∧ vcs P Q n (.ops dr all rest :: k) (st.put o.dst u) ∧ (dr = true → cls o.op = 1 → u.wr = [])) ∨
    (skips all st o ∧ vcs P Q n (.ops dr all rest :: k) (st.put o.dst undU)) := by
  obtain ⟨d, op, ty, pos, after, g⟩ := o
  simp only [vcs] at h
  split at h
  · obtain ⟨u, h1, h2, h3⟩ := opVC_spec h
    exact .inl ⟨.inl rfl, u, h1, h2, h3⟩
  · rename_i j want
    split at h
    · exact h.elim
    · rename_i s hs
      split at h
      · rename_i b hb
        by_cases hbw : b = want
        · subst hbw
          have h1 := h.1 rfl
          rw [see_same hb] at h1
          obtain ⟨u, h1, h2, h3⟩ := opVC_spec h1
          exact .inl ⟨.inr ⟨j, b, s, rfl, hs, hb⟩, u, h1, h2, h3⟩
        · have hbn : b = !want := by cases b <;> cases want <;> simp_all
          subst hbn
          have h1 := h.2 rfl
          rw [see_same hb] at h1
          exact .inr ⟨⟨j, want, s, rfl, hs, hb⟩, h1⟩
      · exact h.elim

theorem den_bool {ρ : Nat → Loc} {M : MemF} {b : Bool} {y : Value} (h : Den ρ M (.o (.v (.bool b))) y) : y = .bool b := h

theorem yielded_of {w0 : World} {ρ : Nat → Loc} {T : Nat → AV} {M : MemF} {N : Nat} {a : Act} {w : World} (h : SatS w0 ρ T M N a w) {all : List Oper} {j s : Nat} {b : Bool} (hs : gslot all j = some s) (hb : T s = .o (.v (.bool b))) :
    yielded all.toArray a.tmps j = some b := by
  have hd := h.slot s
  rw [hb] at hd
  have hd := den_bool hd
  unfold yielded
  have : ((all.toArray[j]?).bind (·.dst)) = some s := by simpa [gslot] using hs
  rw [this]
  simp only [Option.bind_some]
  rw [Array.getD_eq_getD_getElem?] at hd
  cases ht : a.tmps[s]? with
  | none => rw [ht] at hd; simp [undef] at hd
  | some v => rw [ht] at hd; simp at hd; simp [hd]

theorem wanted_runs {w0 : World} {ρ : Nat → Loc} {st : St} {a : Act} {w : World} (h : SatS w0 ρ st.T st.m.get st.t.length a w) {all : List Oper} {o : Oper} (hr : runs all st o) : Region.wanted o (yielded all.toArray a.tmps) = true := by
  rcases hr with hg | ⟨j, want, s, hg, hs, hb⟩
  · simp [Region.wanted, hg]
  · simp [Region.wanted, hg, yielded_of h hs hb]
theorem wanted_skips {w0 : World} {ρ : Nat → Loc} {st : St} {a : Act} {w : World} (h : SatS w0 ρ st.T st.m.get st.t.length a w) {all : List Oper} {o : Oper} (hr : skips all st o) : Region.wanted o (yielded all.toArray a.tmps) = false := by
  obtain ⟨j, want, s, hg, hs, hb⟩ := hr
  simp [Region.wanted, hg, yielded_of h hs hb]

theorem out_of {st : St} (hid : ∀ j, (st.m.get j).isSome = true → j < st.n) : ∀ k, (st.m.get k).isSome = true → Out st.n k := fun k hk => .inl (hid k hk)

theorem SatN.skip {w0 : World} {ρ : Nat → Loc} {st : St} {a : Act} {w : World} (h : SatN w0 ρ st a w) (d : Option Nat) : SatN w0 ρ (st.put d undU) (a.put d undef) w :=
  h.put (fun _ _ => rfl) (fun k e he => by cases he) (by rw [undU, applyM_nil]; exact h.1.mem) h.1.below (by rw [undU, applyM_nil]; exact rfl)

/-- A region that keeps the text's order. -/
theorem ops_sound {all : List Oper} {k : List Frm} {w0 : World} (n : Nat) (ih : ∀ m, m < n → ∀ st, vcs P Q m k st → (SVX P Q k).1 st) : ∀ (m : Nat), m ≤ n → ∀ (rest : List Oper) (st : St) (ρ : Nat → Loc) (a : Act) (w : World),
    vcs P Q m (.ops false all rest :: k) st → SatN w0 ρ st a w → wpList P all.toArray (PostS P Q w0 k) rest a w
  | 0, _, _, _, _, _, _, h, _ => h.elim
  | m + 1, hm, [], st, ρ, a, w, h, hs => wpList_nil ⟨ρ, st, hs, ih m (by omega) st h⟩
  | m + 1, hm, o :: rest, st, ρ, a, w, h, hs => by
    refine wpList_step fun K hK => ?_
    rcases vcs_op h with ⟨hr, u, hok, hv, _⟩ | ⟨hr, hv⟩
    · rw [if_pos (wanted_runs hs.1 hr)]
      refine op_sound hs.1 (out_of hs.2) rfl hok ?_
      intro y w' ρ' h1 h2 h3 h4
      refine hK _ _ (ops_sound n ih m (by omega) rest _ ρ' _ _ hv ?_)
      exact hs.put (fun k hk => h1 k (.inl hk)) (fun k e he => (opOK_ids hok k e he).2) h2 h3 h4
    · rw [if_neg (by rw [wanted_skips hs.1 hr]; simp)]
      exact hK _ _ (ops_sound n ih m (by omega) rest _ ρ _ _ hv (hs.skip _))

end
end Go.Sx
