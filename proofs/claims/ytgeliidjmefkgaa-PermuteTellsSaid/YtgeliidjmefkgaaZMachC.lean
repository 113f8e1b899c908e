/-
  The machine: the equations by which a piece of code is gone through. Words of 64 bits as natural numbers, in the machine. Conversions, negations and indices in the machine, for words. The machine's equations, all in one. The machine: a loop's rule that forgets what the loop writes; lists of cells. The machine: a call may be gone through in place; what the caller's slots hold is kept beside. The machine: memory told with less, alone; waiting slots given back; the bases of a loop over a function. No conditions.
-/
import Derived.Test.YtgeliidjmefkgaaZMachB
import Derived.Laws.Strings
namespace Go.Sx
section
variable {P : Program} {Q : St → Prop}

/-- A pure operation's value is wanted. -/
inductive ExVC (P : Program) (Q : St → Prop) (n : Nat) (dr : Md) (all rest : List Oper) (k : List Frm) (st : St) (d : Option Nat) (S : Value → Prop) : Prop where
  | intro (z : Value) (hS : S z) (h : vcx P Q n (.ops dr all rest :: k) (st.put d (val z)))
/-- A contract is wanted. -/
inductive CallVC (P : Program) (Q : St → Prop) (n : Nat) (dr : Md) (all rest : List Oper) (k : List Frm) (st : St) (d : Option Nat) (op : Op) (f : Nat) (args : List AV) : Prop where
  | mk (as : List Arg) (rs : List Res) (hc : Contract P f as rs) (hm : argsMatch st.m.get args as) (hl : rs.length ≤ 4) (ha : apartIds args as) (hn : cls dr op = 1 → movedE args as = [])
    (h : vcx P Q n (.ops dr all rest :: k) (st.put d ⟨packA (ressA st.n rs), ressE st.n rs, movedE args as⟩))
  | raw (hd : dr = .plain) (h : RawOp P st op d fun st' => vcx P Q n (.ops dr all rest :: k) st')
/-- A function value is called. -/
inductive CloVC (P : Program) (Q : St → Prop) (n : Nat) (dr : Md) (all rest : List Oper) (k : List Frm) (st : St) (d : Option Nat) (op : Op) (f : Nat) (args : List AV) : Prop where
  | mk (as : List Arg) (rs : List Res) (hc : Contract P f as rs) (hm : argsMatch st.m.get args as) (hl : rs.length ≤ 4) (ha : apartIds args as) (hn : cls dr op = 1 → movedE args as = [])
    (h : vcx P Q n (.ops dr all rest :: k) (st.put d ⟨packA (ressA st.n rs), ressE st.n rs, movedE args as⟩))
  | raw (hd : dr = .plain) (h : RawOp P st op d fun st' => vcx P Q n (.ops dr all rest :: k) st')
/-- A function value called, by its function's contract. -/
theorem CloVC.intro {n dr all rest k st d op f args} {as : List Arg} {rs : List Res} (hc : Contract P f as rs) (hm : argsMatch st.m.get args as) (hl : rs.length.ble 4 = true) (hn : movedE args as = [])
    (h : vcx P Q n (.ops dr all rest :: k) (st.put d ⟨packA (ressA st.n rs), ressE st.n rs, []⟩)) : CloVC P Q n dr all rest k st d op f args :=
  .mk as rs hc hm (Nat.le_of_ble_eq_true hl) (.inl hn) (fun _ => hn) (by rw [hn]; exact h)
/-- A call of a function whose arguments are not given away. -/
theorem CallVC.intro {n dr all rest k st d op f args} {as : List Arg} {rs : List Res} (hc : Contract P f as rs) (hm : argsMatch st.m.get args as) (hl : rs.length.ble 4 = true) (hn : movedE args as = [])
    (h : vcx P Q n (.ops dr all rest :: k) (st.put d ⟨packA (ressA st.n rs), ressE st.n rs, []⟩)) : CallVC P Q n dr all rest k st d op f args :=
  .mk as rs hc hm (Nat.le_of_ble_eq_true hl) (.inl hn) (fun _ => hn) (by rw [hn]; exact h)
/-- A slice against nil: either answer, where it is empty. -/
inductive NdVC (P : Program) (Q : St → Prop) (n : Nat) (dr : Md) (all rest : List Oper) (k : List Frm) (st : St) (d : Option Nat) (S : Bool → Prop) : Prop where
  | intro (hd : dr = .plain) (h : ∀ b, S b → vcx P Q n (.ops dr all rest :: k) (st.put d (val (.bool b))))
/-- A step that is told by itself. -/
inductive RawVC (P : Program) (Q : St → Prop) (n : Nat) (dr : Md) (all rest : List Oper) (k : List Frm) (st : St) (d : Option Nat) (op : Op) : Prop where
  | intro (hd : dr = .plain) (h : RawOp P st op d fun st' => vcx P Q n (.ops dr all rest :: k) st')
  | f (z : Value) (h : factOp P st.T st.m.get op z) (hv : vcx P Q n (.ops dr all rest :: k) (st.put d (val z)))
/-- The region draws its order. -/
inductive DrawVC (P : Program) (Q : St → Prop) (n : Nat) (all : List Oper) (k : List Frm) (st : St) (A : Prop) : Prop where
  | intro (h : orderOK .draw all = true) (ha : A)
  | strict (h : orderOK .strict all = true) (hb : vcx P Q n (.ops .strict all all :: k) st)
  | only (f : Nat) (h : orderOK (.only f) all = true) (hb : vcx P Q n (.ops (.only f) all all :: k) st)
  | apart (ds : List (Nat × Nat)) (ha : apS st.T ds = true) (h : orderOK (.apart ds) all = true) (hb : vcx P Q n (.ops (.apart ds) all all :: k) st)
  | raw (h : ∀ (j : Nat) (o : Array Oper), o.toList = all → CodeX P Q (.region j o true) k st)

def goOnD (P : Program) (Q : St → Prop) (n : Nat) (dr : Md) (all rest : List Oper) (k : List Frm) (st : St) (d : Option Nat) (op : Op) : Eff → Prop
  | .fail => False
  | .ok c u => c ∧ vcx P Q n (.ops dr all rest :: k) (st.put d u)
  | .ex S => ExVC P Q n dr all rest k st d S
  | .call f args => CallVC P Q n dr all rest k st d op f args
  | .clo f args => CloVC P Q n dr all rest k st d op f args
  | .nd S => NdVC P Q n dr all rest k st d S
  | .raw => RawVC P Q n dr all rest k st d op
noncomputable def goOn (P : Program) (Q : St → Prop) (n : Nat) (dr : Md) (all rest : List Oper) (k : List Frm) (st : St) (d : Option Nat) (op : Op) (e : Eff) : Prop := hid (@goOnD P Q n dr) all rest k st d op e
theorem goOn_eq {n dr all rest k st d op e} : goOn P Q n dr all rest k st d op e = goOnD P Q n dr all rest k st d op e := by unfold goOn; rw [hid_eq]
theorem g_fail {n dr all rest k st d op} : goOn P Q n dr all rest k st d op .fail = False := goOn_eq
theorem g_ok {n dr all rest k st d op c u} : goOn P Q n dr all rest k st d op (.ok c u) = (c ∧ vcx P Q n (.ops dr all rest :: k) (st.put d u)) := goOn_eq
theorem g_ex {n dr all rest k st d op S} : goOn P Q n dr all rest k st d op (.ex S) = ExVC P Q n dr all rest k st d S := goOn_eq
theorem g_call {n dr all rest k st d op f args} : goOn P Q n dr all rest k st d op (.call f args) = CallVC P Q n dr all rest k st d op f args := goOn_eq
theorem g_nd {n dr all rest k st d op S} : goOn P Q n dr all rest k st d op (.nd S) = NdVC P Q n dr all rest k st d S := goOn_eq
theorem g_raw {n dr all rest k st d op} : goOn P Q n dr all rest k st d op .raw = RawVC P Q n dr all rest k st d op := goOn_eq
theorem g_clo {n dr all rest k st d op f args} : goOn P Q n dr all rest k st d op (.clo f args) = CloVC P Q n dr all rest k st d op f args := goOn_eq
def guardD (P : Program) (Q : St → Prop) (n : Nat) (dr : Md) (all rest : List Oper) (k : List Frm) (st : St) (d : Option Nat) (op : Op) (s : Nat) (want : Bool) : AV → Prop
  | .o (.v (.bool true)) => match want with
    | true => goOn P Q n dr all rest k (st.see s true) d op (opEff P (st.see s true).T (st.see s true).m.get (st.see s true).n op)
    | false => vcx P Q n (.ops dr all rest :: k) ((st.see s true).put d ⟨.o (.v undef), [], []⟩)
  | .o (.v (.bool false)) => match want with
    | false => goOn P Q n dr all rest k (st.see s false) d op (opEff P (st.see s false).T (st.see s false).m.get (st.see s false).n op)
    | true => vcx P Q n (.ops dr all rest :: k) ((st.see s false).put d ⟨.o (.v undef), [], []⟩)
  | .o (.v y) => y = undef ∧ vcx P Q n (.ops dr all rest :: k) (st.put d ⟨.o (.v undef), [], []⟩)
  | _ => False
noncomputable def guardGo (P : Program) (Q : St → Prop) (n : Nat) (dr : Md) (all rest : List Oper) (k : List Frm) (st : St) (d : Option Nat) (op : Op) (s : Nat) (want : Bool) (x : AV) : Prop := hid (@guardD P Q n dr) all rest k st d op s want x
theorem guardGo_eq {n dr all rest k st d op s want x} : guardGo P Q n dr all rest k st d op s want x = guardD P Q n dr all rest k st d op s want x := by unfold guardGo; rw [hid_eq]
theorem guard_split {n dr all rest k st d op s want} {b : Bool} (ht : b = true → guardGo P Q n dr all rest k st d op s want (.o (.v (.bool true)))) (hf : b = false → guardGo P Q n dr all rest k st d op s want (.o (.v (.bool false)))) :
    guardGo P Q n dr all rest k st d op s want (.o (.v (.bool b))) := by
  cases b
  · exact hf rfl
  · exact ht rfl
def condD (P : Program) (Q : St → Prop) (n : Nat) (k : List Frm) (st : St) (a b : Code) : AV → Prop
  | .o (.v (.bool true)) => vcx P Q n (.code a :: k) st
  | .o (.v (.bool false)) => vcx P Q n (.code b :: k) st
  | _ => False
noncomputable def condGo (P : Program) (Q : St → Prop) (n : Nat) (k : List Frm) (st : St) (a b : Code) (x : AV) : Prop := hid (@condD P Q n) k st a b x
theorem condGo_eq {n k st a b x} : condGo P Q n k st a b x = condD P Q n k st a b x := by unfold condGo; rw [hid_eq]
theorem cond_t {n k st a b} : condGo P Q n k st a b (.o (.v (.bool true))) = vcx P Q n (.code a :: k) st := condGo_eq
theorem cond_f {n k st a b} : condGo P Q n k st a b (.o (.v (.bool false))) = vcx P Q n (.code b :: k) st := condGo_eq
theorem cond_split {n k st a b} {t : Bool} (ht : t = true → vcx P Q n (.code a :: k) st) (hf : t = false → vcx P Q n (.code b :: k) st) : condGo P Q n k st a b (.o (.v (.bool t))) := by
  cases t
  · rw [cond_f]; exact hf rfl
  · rw [cond_t]; exact ht rfl

theorem opVC_go {n : Nat} {dr : Md} {all rest : List Oper} {k : List Frm} {st : St} {d : Option Nat} {op : Op} :
    opVC P dr st op d (fun u => vcs P Q n (.ops dr all rest :: k) (st.put d u)) (fun st' => vcs P Q n (.ops dr all rest :: k) st') = goOn P Q n dr all rest k st d op (opEff P st.T st.m.get st.n op) := by
  rw [goOn_eq]
  unfold opVC
  have hf : (fun st' => vcs P Q n (.ops dr all rest :: k) st') = fun st' => vcx P Q n (.ops dr all rest :: k) st' := funext fun st' => vcx_eq.symm
  cases opEff P st.T st.m.get st.n op with
  | fail => rfl
  | ok c u => simp only [goOnD, vcx_eq]
  | ex S =>
    refine propext ⟨?_, ?_⟩
    · rintro ⟨z, hS, h⟩; exact ⟨z, hS, by rw [vcx_eq]; exact h⟩
    · rintro ⟨z, hS, h⟩; exact ⟨z, hS, vcx_eq.mp h⟩
  | call f args =>
    simp only []
    rw [hf]
    refine propext ⟨?_, ?_⟩
    · rintro (⟨as, rs, h1, h2, h3, h4, h5, h⟩ | ⟨h1, h2⟩)
      · exact .mk as rs h1 h2 h3 h4 h5 (by rw [vcx_eq]; exact h)
      · exact .raw h1 h2
    · rintro (⟨as, rs, h1, h2, h3, h4, h5, h⟩ | ⟨h1, h2⟩)
      · exact .inl ⟨as, rs, h1, h2, h3, h4, h5, vcx_eq.mp h⟩
      · exact .inr ⟨h1, h2⟩
  | clo f args =>
    simp only []
    rw [hf]
    refine propext ⟨?_, ?_⟩
    · rintro (⟨as, rs, h1, h2, h3, h4, h5, h⟩ | ⟨h1, h2⟩)
      · exact .mk as rs h1 h2 h3 h4 h5 (by rw [vcx_eq]; exact h)
      · exact .raw h1 h2
    · rintro (⟨as, rs, h1, h2, h3, h4, h5, h⟩ | ⟨h1, h2⟩)
      · exact .inl ⟨as, rs, h1, h2, h3, h4, h5, vcx_eq.mp h⟩
      · exact .inr ⟨h1, h2⟩
  | nd S =>
    refine propext ⟨?_, ?_⟩
    · rintro ⟨h1, h2⟩
      exact .intro h1 fun b hb => by rw [vcx_eq]; exact h2 b hb
    · rintro ⟨h1, h2⟩
      exact ⟨h1, fun b hb => by have := h2 b hb; rw [vcx_eq] at this; exact this⟩
  | raw =>
    simp only []
    rw [hf]
    refine propext ⟨?_, ?_⟩
    · rintro (⟨z, h1, h2⟩ | ⟨h1, h2⟩)
      · exact .f z h1 (by rw [vcx_eq]; exact h2)
      · exact .intro h1 h2
    · rintro (⟨h1, h2⟩ | ⟨z, h1, h2⟩)
      · exact .inr ⟨h1, h2⟩
      · exact .inl ⟨z, h1, vcx_eq.mp h2⟩

theorem guard_tt {n dr all rest k st d op s} : guardGo P Q n dr all rest k st d op s true (.o (.v (.bool true))) = goOn P Q n dr all rest k (st.see s true) d op (opEff P (st.see s true).T (st.see s true).m.get (st.see s true).n op) := guardGo_eq
theorem guard_ff {n dr all rest k st d op s} : guardGo P Q n dr all rest k st d op s false (.o (.v (.bool false))) = goOn P Q n dr all rest k (st.see s false) d op (opEff P (st.see s false).T (st.see s false).m.get (st.see s false).n op) := guardGo_eq
theorem guard_tf {n dr all rest k st d op s} : guardGo P Q n dr all rest k st d op s true (.o (.v (.bool false))) = vcx P Q n (.ops dr all rest :: k) ((st.see s false).put d ⟨.o (.v undef), [], []⟩) := guardGo_eq
theorem guard_ft {n dr all rest k st d op s} : guardGo P Q n dr all rest k st d op s false (.o (.v (.bool true))) = vcx P Q n (.ops dr all rest :: k) ((st.see s true).put d ⟨.o (.v undef), [], []⟩) := guardGo_eq
theorem guard_un {n dr all rest k st d op s want} : guardGo P Q n dr all rest k st d op s want (.o (.v undef)) = vcx P Q n (.ops dr all rest :: k) (st.put d ⟨.o (.v undef), [], []⟩) :=
  guardGo_eq.trans (propext ⟨fun h => h.2, fun h => ⟨rfl, h⟩⟩)
theorem v_nil {n st} : vcx P Q (n + 1) [] st = Q st := vcx_eq
theorem v_stop {n K k st} : vcx P Q (n + 1) (.stop K :: k) st = K st := vcx_eq
theorem v_block {n j k st} : vcx P Q (n + 1) (.block j :: k) st = vcx P Q n k st := by rw [vcx_eq, vcx_eq]; rfl
theorem v_end {n dr all k st} : vcx P Q (n + 1) (.ops dr all [] :: k) st = vcx P Q n k st := by rw [vcx_eq, vcx_eq]; rfl
theorem v_op {n dr all d op ty pos after rest k st} : vcx P Q (n + 1) (.ops dr all (⟨d, op, ty, pos, after, none⟩ :: rest) :: k) st = goOn P Q n dr all rest k st d op (opEff P st.T st.m.get st.n op) := by
  rw [← opVC_go, vcx_eq]; rfl
/-- The slot of a region's operation. -/
theorem gs_0 {o : Oper} {l : List Oper} : gslot (o :: l) 0 = o.dst := rfl
theorem gs_s {o : Oper} {l : List Oper} {j : Nat} : gslot (o :: l) (j + 1) = gslot l j := rfl
def atSlot (F : Nat → Prop) : Option Nat → Prop
  | none => False
  | some s => F s
noncomputable def guardAt (P : Program) (Q : St → Prop) (n : Nat) (dr : Md) (all rest : List Oper) (k : List Frm) (st : St) (d : Option Nat) (op : Op) (want : Bool) (s : Option Nat) : Prop :=
  atSlot (fun s => guardGo P Q n dr all rest k st d op s want (st.T s)) s
theorem ga_some {n dr all rest k st d op want} {s : Nat} : guardAt P Q n dr all rest k st d op want (some s) = guardGo P Q n dr all rest k st d op s want (st.T s) := rfl
theorem v_guard {n dr all d op ty pos after j want rest k st} : vcx P Q (n + 1) (.ops dr all (⟨d, op, ty, pos, after, some (j, want)⟩ :: rest) :: k) st = guardAt P Q n dr all rest k st d op want (gslot all j) := by
  rw [vcx_eq]
  simp only [vcs]
  cases hg : gslot all j with
  | none => rfl
  | some s =>
    rw [ga_some, guardGo_eq]
    simp only []
    generalize st.T s = x
    unfold guardD
    cases x with
    | t l => rfl
    | o a =>
      cases a with
      | v y =>
        cases y with
        | bool b => cases b <;> cases want <;> simp [opVC_go, vcx_eq]
        | _ => simp only [vcx_eq]
      | _ => rfl
theorem v_skip {n k st} : vcx P Q (n + 1) (.code .skip :: k) st = vcx P Q n k st := by rw [vcx_eq, vcx_eq]; rfl
theorem v_region {n id} {ops : List Oper} {k st} : vcx P Q (n + 1) (.code (.region id ops.toArray false) :: k) st = vcx P Q n (.ops .plain ops ops :: k) st := by
  rw [vcx_eq, vcx_eq]; simp only [vcs]
theorem v_regionD {n id} {ops : List Oper} {k st} : vcx P Q (n + 1) (.code (.region id ops.toArray true) :: k) st = DrawVC P Q n ops k st (vcx P Q n (.ops .draw ops ops :: k) st) := by
  rw [vcx_eq, vcx_eq]; simp only [vcs]
  refine propext ⟨?_, ?_⟩
  · rintro (⟨md, h0, h3, h1, h2⟩ | h)
    rotate_left
    · exact .raw fun j o ho => by rw [CodeX_eq]; exact h j o (by simpa using ho)
    cases md with
    | plain => exact absurd rfl h0
    | draw => exact .intro (by simpa using h1) h2
    | strict => exact .strict (by simpa using h1) (by rw [vcx_eq]; exact h2)
    | only f => exact .only f (by simpa using h1) (by rw [vcx_eq]; exact h2)
    | apart ds => exact .apart ds h3 (by simpa using h1) (by rw [vcx_eq]; exact h2)
  · rintro (⟨h1, h2⟩ | ⟨h1, h2⟩ | ⟨f, h1, h2⟩ | ⟨ds, h3, h1, h2⟩ | h)
    · exact .inl ⟨.draw, nofun, rfl, by simpa using h1, h2⟩
    · exact .inl ⟨.strict, nofun, rfl, by simpa using h1, by rw [vcx_eq] at h2; exact h2⟩
    · exact .inl ⟨.only f, nofun, rfl, by simpa using h1, by rw [vcx_eq] at h2; exact h2⟩
    · exact .inl ⟨.apart ds, nofun, h3, by simpa using h1, by rw [vcx_eq] at h2; exact h2⟩
    · exact .inr fun j o ho => by have := h j o (by simpa using ho); rwa [CodeX_eq] at this
theorem v_seq {n a b k st} : vcx P Q (n + 1) (.code (.seq a b) :: k) st = vcx P Q n (.code a :: .code b :: k) st := by rw [vcx_eq, vcx_eq]; rfl
theorem v_cond {n c a b k st} : vcx P Q (n + 1) (.code (.cond c a b) :: k) st = condGo P Q n k st a b (ev st.T c) := by
  rw [vcx_eq, condGo_eq]
  simp only [vcs]
  generalize ev st.T c = x
  unfold condD
  cases x with
  | t l => rfl
  | o a =>
    cases a with
    | v y =>
      cases y with
      | bool b => cases b <;> simp [vcx_eq]
      | _ => rfl
    | _ => rfl
theorem v_blk {n id c k st} : vcx P Q (n + 1) (.code (.block id c) :: k) st = vcx P Q n (.code c :: .block id :: k) st := by rw [vcx_eq, vcx_eq]; rfl
theorem v_range {n gf ps x y k st} : vcx P Q (n + 1) (.code (.rangeFunc gf ps x y) :: k) st = CodeX P Q (.rangeFunc gf ps x y) k st := by rw [vcx_eq, CodeX_eq]; rfl
theorem v_loop {n c k st} : vcx P Q (n + 1) (.code (.loop c) :: k) st = LoopX P Q c k st := by rw [vcx_eq, LoopX_eq]; rfl
theorem x_code {n id c k st} : vcx P Q (n + 1) (.code (.exit id) :: .code c :: k) st = vcx P Q (n + 1) (.code (.exit id) :: k) st := by rw [vcx_eq, vcx_eq]; rfl
theorem x_ops {n id dr a l k st} : vcx P Q (n + 1) (.code (.exit id) :: .ops dr a l :: k) st = vcx P Q (n + 1) (.code (.exit id) :: k) st := by rw [vcx_eq, vcx_eq]; rfl
theorem x_stop {n id K k st} : vcx P Q (n + 1) (.code (.exit id) :: .stop K :: k) st = vcx P Q (n + 1) (.code (.exit id) :: k) st := by rw [vcx_eq, vcx_eq]; rfl
theorem x_here {n id k st} : vcx P Q (n + 1) (.code (.exit id) :: .block id :: k) st = vcx P Q n k st := by
  rw [vcx_eq, vcx_eq]; simp only [vcs, pop, if_true]
theorem x_out {n id j k st} (h : (id == j) = false) : vcx P Q (n + 1) (.code (.exit id) :: .block j :: k) st = vcx P Q (n + 1) (.code (.exit id) :: k) st := by
  have h : id ≠ j := by simpa using h
  rw [vcx_eq, vcx_eq]; simp only [vcs, pop, h, if_false]
theorem v_ret {n k st} : vcx P Q (n + 1) (.code .ret :: k) st = Q st := vcx_eq


/-! What is not looked into. -/
@[congr] theorem vcx_congr {n k} {st st' : St} (h : st = st') : vcx P Q n k st = vcx P Q n k st' := by rw [h]
@[congr] theorem goOn_congr {n dr all rest k d op} {st st' : St} {e e' : Eff} (h : st = st') (h2 : e = e') : goOn P Q n dr all rest k st d op e = goOn P Q n dr all rest k st' d op e' := by rw [h, h2]
@[congr] theorem CodeX_congr {c k} {st st' : St} (h : st = st') : CodeX P Q c k st = CodeX P Q c k st' := by rw [h]
@[congr] theorem condGo_congr {n k a b} {st st' : St} {x x' : AV} (h : st = st') (h2 : x = x') : condGo P Q n k st a b x = condGo P Q n k st' a b x' := by rw [h, h2]
@[congr] theorem guardGo_congr {n dr all rest k d op s want} {st st' : St} {x x' : AV} (h : st = st') (h2 : x = x') : guardGo P Q n dr all rest k st d op s want x = guardGo P Q n dr all rest k st' d op s want x' := by rw [h, h2]
@[congr] theorem guardAt_congr {n dr all rest k d op want} {st st' : St} {x x' : Option Nat} (h : st = st') (h2 : x = x') : guardAt P Q n dr all rest k st d op want x = guardAt P Q n dr all rest k st' d op want x' := by rw [h, h2]
@[congr] theorem CallVC_congr {n dr all rest k d op f} {st st' : St} {args args' : List AV} (h : st = st') (h2 : args = args') : CallVC P Q n dr all rest k st d op f args = CallVC P Q n dr all rest k st' d op f args' := by rw [h, h2]
@[congr] theorem CloVC_congr {n dr all rest k d op f} {st st' : St} {args args' : List AV} (h : st = st') (h2 : args = args') : CloVC P Q n dr all rest k st d op f args = CloVC P Q n dr all rest k st' d op f args' := by rw [h, h2]
@[congr] theorem RawVC_congr {n dr all rest k d} {op : Op} {st st' : St} (h : st = st') : RawVC P Q n dr all rest k st d op = RawVC P Q n dr all rest k st' d op := by rw [h]
@[congr] theorem ExVC_congr {n dr all rest k d} {S S' : Value → Prop} {st st' : St} (h : st = st') (h2 : S = S') : ExVC P Q n dr all rest k st d S = ExVC P Q n dr all rest k st' d S' := by rw [h, h2]
@[congr] theorem NdVC_congr {n dr all rest k d S} {st st' : St} (h : st = st') : NdVC P Q n dr all rest k st d S = NdVC P Q n dr all rest k st' d S := by rw [h]
@[congr] theorem LoopX_congr {c k} {st st' : St} (h : st = st') : LoopX P Q c k st = LoopX P Q c k st' := by rw [h]
@[congr] theorem RoundsVC_congr {c k n} {st st' : St} (h : st = st') : RoundsVC P Q c k n st = RoundsVC P Q c k n st' := by rw [h]
@[congr] theorem gslot_congr {all : List Oper} {j : Nat} : gslot all j = gslot all j := rfl
@[congr] theorem DrawVC_congr {n k} {st : St} {all : List Oper} {A A' : Prop} (h : A = A') : DrawVC P Q n all k st A = DrawVC P Q n all k st A' := by rw [h]

theorem T_at {t : List AV} {m : Mem} {n i : Nat} : St.T ⟨t, m, n⟩ i = t.getD i (.o .any) := rfl
theorem ev_tmp {T : Nat → AV} {i : Nat} : ev T (.tmp i) = T i := rfl
theorem ev_const {T : Nat → AV} {x : Value} : ev T (.const x) = .o (.v x) := rfl
theorem ev_func {T : Nat → AV} {f : Nat} : ev T (.func f) = .o (.fn f []) := rfl
theorem put_some {t : List AV} {m : Mem} {n i : Nat} {u : Upd} : St.put ⟨t, m, n⟩ (some i) u = ⟨t.set i u.r, u.cr ++ updm u.wr m, n + 4⟩ := rfl
theorem put_none {t : List AV} {m : Mem} {n : Nat} {u : Upd} : St.put ⟨t, m, n⟩ none u = ⟨t, u.cr ++ updm u.wr m, n + 4⟩ := rfl
theorem see_at {t : List AV} {m : Mem} {n s : Nat} {b : Bool} : St.see ⟨t, m, n⟩ s b = ⟨t.set s (.o (.v (.bool b))), m, n⟩ := rfl
theorem updm_nil {m : Mem} : updm [] m = m := rfl
theorem updm_one {k : Nat} {e : Ent} {m : Mem} : updm [(k, e)] m = m.map fun y => (y.1, if y.1 = k then e else y.2) := by
  simp only [updm]
  apply List.map_congr_left
  intro y _
  simp only [Mem.get]
  by_cases h : y.1 = k
  · simp [h]
  · simp [h]

end
end Go.Sx
namespace Go.Sx
section
variable {P : Program} {Q : St → Prop}

def u64 (n : Nat) : Value := .int .u64 (n : Int)
theorem cellsU (n : Nat) : (u64 n).cells = #[u64 n] := rfl
theorem oneU (n : Nat) : (u64 n).oneCell' = true := rfl
theorem oneI (k : IntKind) (n : Int) : (Value.int k n).oneCell' = true := rfl
theorem oneB (b : Bool) : (Value.bool b).oneCell' = true := rfl
theorem cellsI (k : IntKind) (n : Int) : (Value.int k n).cells = #[Value.int k n] := rfl
theorem cellsB (b : Bool) : (Value.bool b).cells = #[Value.bool b] := rfl
theorem i0 : Value.int .u64 0 = u64 0 := rfl
theorem i1 : Value.int .u64 1 = u64 1 := rfl
theorem wr1 : IntKind.i64.wrap 1 = 1 := by decide
theorem wr2 : IntKind.i64.wrap 2 = 2 := by decide
theorem wr3 : IntKind.i64.wrap 3 = 3 := by decide
theorem wr4 : IntKind.i64.wrap 4 = 4 := by decide
theorem wrap_u64 (n : Int) : IntKind.u64.wrap n = n % 18446744073709551616 := IntKind.wrap_u64 n

/-- What a shift multiplies or divides by. -/
def sh (q : Nat) : Nat := 2 ^ min q 64
theorem sh_1 : sh 1 = 2 := rfl
theorem sh_24 : sh 24 = 16777216 := rfl
theorem sh_32 : sh 32 = 4294967296 := rfl
theorem sh_40 : sh 40 = 1099511627776 := rfl
theorem sh_63 : sh 63 = 9223372036854775808 := rfl
/-! The operations are sealed, so that the kernel does not unfold them. -/
theorem uadd_ex : ∃ g : Nat → Nat → Nat, ∀ a b, g a b = (a + b) % 18446744073709551616 := ⟨fun a b => (a + b) % 18446744073709551616, fun _ _ => rfl⟩
noncomputable def uadd : Nat → Nat → Nat := Classical.choose uadd_ex
theorem uadd_eq (a b : Nat) : uadd a b = (a + b) % 18446744073709551616 := Classical.choose_spec uadd_ex a b
theorem usub_ex : ∃ g : Nat → Nat → Nat, ∀ a b, g a b = (a + (18446744073709551616 - b % 18446744073709551616)) % 18446744073709551616 := ⟨fun a b => (a + (18446744073709551616 - b % 18446744073709551616)) % 18446744073709551616, fun _ _ => rfl⟩
noncomputable def usub : Nat → Nat → Nat := Classical.choose usub_ex
theorem usub_eq (a b : Nat) : usub a b = (a + (18446744073709551616 - b % 18446744073709551616)) % 18446744073709551616 := Classical.choose_spec usub_ex a b
theorem umul_ex : ∃ g : Nat → Nat → Nat, ∀ a b, g a b = a * b % 18446744073709551616 := ⟨fun a b => a * b % 18446744073709551616, fun _ _ => rfl⟩
noncomputable def umul : Nat → Nat → Nat := Classical.choose umul_ex
theorem umul_eq (a b : Nat) : umul a b = a * b % 18446744073709551616 := Classical.choose_spec umul_ex a b
theorem uquo_ex : ∃ g : Nat → Nat → Nat, ∀ a b, g a b = a / b % 18446744073709551616 := ⟨fun a b => a / b % 18446744073709551616, fun _ _ => rfl⟩
noncomputable def uquo : Nat → Nat → Nat := Classical.choose uquo_ex
theorem uquo_eq (a b : Nat) : uquo a b = a / b % 18446744073709551616 := Classical.choose_spec uquo_ex a b
theorem urem_ex : ∃ g : Nat → Nat → Nat, ∀ a b, g a b = a % b := ⟨fun a b => a % b, fun _ _ => rfl⟩
noncomputable def urem : Nat → Nat → Nat := Classical.choose urem_ex
theorem urem_eq (a b : Nat) : urem a b = a % b := Classical.choose_spec urem_ex a b
theorem ushl_ex : ∃ g : Nat → Nat → Nat, ∀ a b, g a b = a * sh b % 18446744073709551616 := ⟨fun a b => a * sh b % 18446744073709551616, fun _ _ => rfl⟩
noncomputable def ushl : Nat → Nat → Nat := Classical.choose ushl_ex
theorem ushl_eq (a b : Nat) : ushl a b = a * sh b % 18446744073709551616 := Classical.choose_spec ushl_ex a b
theorem ushr_ex : ∃ g : Nat → Nat → Nat, ∀ a b, g a b = a / sh b := ⟨fun a b => a / sh b, fun _ _ => rfl⟩
noncomputable def ushr : Nat → Nat → Nat := Classical.choose ushr_ex
theorem ushr_eq (a b : Nat) : ushr a b = a / sh b := Classical.choose_spec ushr_ex a b
theorem uand_ex : ∃ g : Nat → Nat → Nat, ∀ a b, g a b = a % 18446744073709551616 &&& b % 18446744073709551616 := ⟨fun a b => a % 18446744073709551616 &&& b % 18446744073709551616, fun _ _ => rfl⟩
noncomputable def uand : Nat → Nat → Nat := Classical.choose uand_ex
theorem uand_eq (a b : Nat) : uand a b = a % 18446744073709551616 &&& b % 18446744073709551616 := Classical.choose_spec uand_ex a b
theorem uor_ex : ∃ g : Nat → Nat → Nat, ∀ a b, g a b = a % 18446744073709551616 ||| b % 18446744073709551616 := ⟨fun a b => a % 18446744073709551616 ||| b % 18446744073709551616, fun _ _ => rfl⟩
noncomputable def uor : Nat → Nat → Nat := Classical.choose uor_ex
theorem uor_eq (a b : Nat) : uor a b = a % 18446744073709551616 ||| b % 18446744073709551616 := Classical.choose_spec uor_ex a b
variable {T : Nat → AV} {ty ty' : TypeId} {x y : Operand} {k k' : IntKind} {p q : Int} {a b : Nat}
theorem b_ii {bop : BinOp} : binOn P T bop ty x y ty' (.o (.v (.int k p))) (.o (.v (.int k' q))) = binEff bop k p k' q (.ex (pureOp P T (.binOp bop ty x y ty'))) := rfl
theorem b_add : binOn P T .add ty x y ty' (.o (.v (u64 a))) (.o (.v (u64 b))) = .ok True (val (u64 (uadd a b))) := by
  show Eff.ok _ _ = _
  simp only [wrap_u64]
  refine congr (congrArg _ (by simp)) ?_
  rw [uadd_eq]
  unfold u64
  congr 2
theorem b_mul : binOn P T .mul ty x y ty' (.o (.v (u64 a))) (.o (.v (u64 b))) = .ok True (val (u64 (umul a b))) := by
  show Eff.ok _ _ = _
  refine congr (congrArg _ (by simp)) ?_
  simp only [wrap_u64]
  rw [umul_eq]
  unfold u64
  congr 2
theorem b_sub : binOn P T .sub ty x y ty' (.o (.v (u64 a))) (.o (.v (u64 b))) = .ok True (val (u64 (usub a b))) := by
  show Eff.ok _ _ = _
  refine congr (congrArg _ (by simp)) ?_
  simp only [wrap_u64]
  rw [usub_eq]
  unfold u64
  congr 2
  omega
theorem b_eql : binOn P T .eql ty x y ty' (.o (.v (u64 a))) (.o (.v (u64 b))) = .ok True (val (.bool (a == b))) := by
  show Eff.ok _ _ = _
  refine congr (congrArg _ (by simp)) ?_
  have : ((a : Int) == (b : Int)) = (a == b) := by rw [Bool.eq_iff_iff]; simp; omega
  rw [this]
theorem b_neq : binOn P T .neq ty x y ty' (.o (.v (u64 a))) (.o (.v (u64 b))) = .ok True (val (.bool (a != b))) := by
  show Eff.ok _ _ = _
  refine congr (congrArg _ (by simp)) ?_
  have : ((a : Int) != (b : Int)) = (a != b) := by rw [Bool.eq_iff_iff]; simp; omega
  rw [this]
theorem b_lss : binOn P T .lss ty x y ty' (.o (.v (u64 a))) (.o (.v (u64 b))) = .ok True (val (.bool (decide (a < b)))) := by
  show Eff.ok _ _ = _
  refine congr (congrArg _ (by simp)) ?_
  have : decide ((a : Int) < (b : Int)) = decide (a < b) := by rw [Bool.eq_iff_iff]; simp
  rw [this]
theorem b_leq : binOn P T .leq ty x y ty' (.o (.v (u64 a))) (.o (.v (u64 b))) = .ok True (val (.bool (decide (a ≤ b)))) := by
  show Eff.ok _ _ = _
  refine congr (congrArg _ (by simp)) ?_
  have : decide ((a : Int) ≤ (b : Int)) = decide (a ≤ b) := by rw [Bool.eq_iff_iff]; simp
  rw [this]
theorem b_gtr : binOn P T .gtr ty x y ty' (.o (.v (u64 a))) (.o (.v (u64 b))) = .ok True (val (.bool (decide (b < a)))) := by
  show Eff.ok _ _ = _
  refine congr (congrArg _ (by simp)) ?_
  have : decide ((b : Int) < (a : Int)) = decide (b < a) := by rw [Bool.eq_iff_iff]; simp
  rw [this]
theorem b_geq : binOn P T .geq ty x y ty' (.o (.v (u64 a))) (.o (.v (u64 b))) = .ok True (val (.bool (decide (b ≤ a)))) := by
  show Eff.ok _ _ = _
  refine congr (congrArg _ (by simp)) ?_
  have : decide ((b : Int) ≤ (a : Int)) = decide (b ≤ a) := by rw [Bool.eq_iff_iff]; simp
  rw [this]
theorem b_quo : binOn P T .quo ty x y ty' (.o (.v (u64 a))) (.o (.v (u64 b))) = .ok (b ≠ 0) (val (u64 (uquo a b))) := by
  rw [uquo_eq]
  show Eff.ok _ _ = _
  refine congr (congrArg _ (by simp)) ?_
  simp only [wrap_u64]
  unfold u64
  congr 2
theorem b_rem : binOn P T .rem ty x y ty' (.o (.v (u64 a))) (.o (.v (u64 b))) = .ok (b ≠ 0) (val (u64 (urem a b))) := by
  rw [urem_eq]
  show Eff.ok _ _ = _
  refine congr (congrArg _ (by simp)) ?_
  unfold u64
  congr 2
theorem b_shr {q : Int} : binOn P T .shr ty x y ty' (.o (.v (u64 a))) (.o (.v (.int k' q))) = .ok (0 ≤ q) (val (u64 (ushr a q.toNat))) := by
  rw [ushr_eq]
  show Eff.ok _ _ = _
  refine congr (congrArg _ rfl) ?_
  unfold u64 sh
  congr 2
  rw [Int.fdiv_eq_ediv_of_nonneg _ (Int.pow_nonneg (by decide))]
  show (a : Int) / (2 : Int) ^ (min q.toNat 64) = _
  simp
theorem b_shl {q : Int} : binOn P T .shl ty x y ty' (.o (.v (u64 a))) (.o (.v (.int k' q))) = .ok (0 ≤ q) (val (u64 (ushl a q.toNat))) := by
  rw [ushl_eq]
  show Eff.ok _ _ = _
  refine congr (congrArg _ rfl) ?_
  simp only [wrap_u64]
  unfold u64 sh
  rw [Int.natCast_emod, Int.natCast_mul, Int.natCast_pow]
  congr 2
theorem b_shr_u : binOn P T .shr ty x y ty' (.o (.v (u64 a))) (.o (.v (u64 b))) = .ok True (val (u64 (ushr a b))) := by
  show binOn P T .shr ty x y ty' (.o (.v (u64 a))) (.o (.v (.int .u64 (b : Int)))) = _
  rw [b_shr]
  simp
theorem b_shl_u : binOn P T .shl ty x y ty' (.o (.v (u64 a))) (.o (.v (u64 b))) = .ok True (val (u64 (ushl a b))) := by
  show binOn P T .shl ty x y ty' (.o (.v (u64 a))) (.o (.v (.int .u64 (b : Int)))) = _
  rw [b_shl]
  simp
theorem bits_nat (f : BitVec 64 → BitVec 64 → BitVec 64) (g : Nat → Nat → Nat) (hf : ∀ u v, (f u v).toNat = g u.toNat v.toNat) (a b : Nat) :
    IntKind.u64.wrap ((f (BitVec.ofInt 64 (a : Int)) (BitVec.ofInt 64 (b : Int))).toNat : Int) = (g (a % 18446744073709551616) (b % 18446744073709551616) : Int) := by
  have h1 : (BitVec.ofInt 64 (a : Int)).toNat = a % 18446744073709551616 := by simp
  have h2 : (BitVec.ofInt 64 (b : Int)).toNat = b % 18446744073709551616 := by simp
  have h3 := hf (BitVec.ofInt 64 (a : Int)) (BitVec.ofInt 64 (b : Int))
  have h4 := (f (BitVec.ofInt 64 (a : Int)) (BitVec.ofInt 64 (b : Int))).isLt
  rw [h1, h2] at h3
  rw [wrap_u64, h3] 
  omega
theorem b_and : binOn P T .and ty x y ty' (.o (.v (u64 a))) (.o (.v (u64 b))) = .ok True (val (u64 (uand a b))) := by
  rw [uand_eq]
  show Eff.ok _ _ = _
  refine congr (congrArg _ (by simp)) ?_
  unfold u64
  congr 3
  exact bits_nat (fun u v => u &&& v) (fun u v => u &&& v) (fun u v => BitVec.toNat_and u v) a b
theorem b_or : binOn P T .or ty x y ty' (.o (.v (u64 a))) (.o (.v (u64 b))) = .ok True (val (u64 (uor a b))) := by
  rw [uor_eq]
  show Eff.ok _ _ = _
  refine congr (congrArg _ (by simp)) ?_
  unfold u64
  congr 3
  exact bits_nat (fun u v => u ||| v) (fun u v => u ||| v) (fun u v => BitVec.toNat_or u v) a b
theorem uand_mask (a k m : Nat) (hm : m = 2 ^ k - 1) (hk : k ≤ 64) : uand a m = a % 2 ^ k := by
  subst hm
  rw [uand_eq]
  have h2 : 2 ^ k ≤ 2 ^ 64 := Nat.pow_le_pow_right (by decide) hk
  have h0 : 0 < 2 ^ k := Nat.pow_pos (by decide)
  rw [Nat.mod_eq_of_lt (a := 2 ^ k - 1) (by omega), Nat.and_two_pow_sub_one_eq_mod]
  exact Nat.mod_mod_of_dvd a (Nat.pow_dvd_pow 2 hk)
theorem uand32 (a : Nat) : uand a 4294967295 = a % 4294967296 := uand_mask a 32 _ rfl (by decide)
theorem uand1 (a : Nat) : uand a 1 = a % 2 := uand_mask a 1 _ rfl (by decide)
/-- A sum of bits that do not meet. -/
theorem uor_add (a b k : Nat) (ha : a < 2 ^ k) (hb : 2 ^ k ∣ b) (h : a + b < 18446744073709551616) : uor a b = a + b := by
  rw [uor_eq]
  obtain ⟨c, rfl⟩ := hb
  rw [Nat.mod_eq_of_lt (by omega), Nat.mod_eq_of_lt (by omega), Nat.or_comm, Nat.mul_comm, ← Nat.shiftLeft_eq, ← Nat.shiftLeft_add_eq_or_of_lt ha, Nat.add_comm]
theorem uor_add' (a b k : Nat) (ha : a < 2 ^ k) (hb : 2 ^ k ∣ b) (h : a + b < 18446744073709551616) : uor b a = a + b := by
  rw [← uor_add a b k ha hb h]
  rw [uor_eq, uor_eq]
  rw [Nat.or_comm]
theorem uor_addK (a b k K : Nat) (hK : K = 2 ^ k) (ha : a < K) (hb : K ∣ b) (h : a + b < 18446744073709551616) : uor a b = a + b ∧ uor b a = a + b := by
  subst hK
  exact ⟨uor_add a b k ha hb h, uor_add' a b k ha hb h⟩
theorem uor_zero (a b : Nat) (ha : a < 18446744073709551616) (hb : b < 18446744073709551616) : uor a b = 0 ↔ a = 0 ∧ b = 0 := by
  rw [uor_eq]
  rw [Nat.mod_eq_of_lt ha, Nat.mod_eq_of_lt hb, Nat.or_eq_zero_iff]
theorem uor_lt (a b : Nat) : uor a b < 18446744073709551616 := by
  rw [uor_eq]
  exact Nat.or_lt_two_pow (n := 64) (Nat.mod_lt _ (by decide)) (Nat.mod_lt _ (by decide))

theorem umul_lt (a b : Nat) : umul a b < 18446744073709551616 := by rw [umul_eq]; exact Nat.mod_lt _ (by decide)
theorem umul_zero (a : Nat) : umul a 0 = 0 := by rw [umul_eq]; rfl
/-! ### parts put together, parts compared -/
theorem plains_eval {T : Nat → AV} {a : Operand → Value} : ∀ {parts : List (Nat × Operand)} {ps : List (Nat × Value)}, plains T parts = some ps → (∀ x ∈ parts.map (·.2), ∀ y, ev T x = .o (.v y) → a x = y) → parts.map (fun p => (p.1, a p.2)) = ps
  | [], ps, h, _ => by simp only [plains, Option.some.injEq] at h; subst h; rfl
  | (i, x) :: l, ps, h, ha => by
    simp only [plains] at h
    split at h
    · rename_i y ys hy hys
      simp only [Option.some.injEq] at h
      subst h
      have : ev T x = .o (.v y) := by
        unfold plain at hy
        split at hy
        · rename_i h1; rw [h1]; simp only [Option.some.injEq] at hy; rw [hy]
        · cases hy
      rw [List.map_cons, plains_eval hys (fun x hx => ha x (by simp only [List.map_cons, List.mem_cons]; exact .inr hx)), ha x (by simp) y this]
    · cases h
theorem bldG {t : TypeId} {parts : Array (Nat × Operand)} {ps : List (Nat × Value)} {cells : Array Value} (h1 : plains T parts.toList = some ps) (h2 : P.built t ps = some cells) : pureOp P T (.build t parts) (.agg cells) := by
  intro o f w ho hf _
  have h3 : (parts.map fun p => (p.1, f p.2)).toList = ps := by
    rw [Array.toList_map]
    refine plains_eval h1 fun x hx y hy => hf x ?_ y hy
    simp only [Op.operands]
    simpa using hx
  have h4 := run_build (P := P) w t (parts.map fun p => (p.1, f p.2)) cells (by rw [h3]; exact h2)
  simp [execOp, ho]
  rw [show (fun x : Nat × Operand => (x.1, f x.2)) = fun p => (p.1, f p.2) from rfl, h4]
  simp
theorem ExVC.build {n dr all rest k st d} {t : TypeId} {parts : Array (Nat × Operand)} (ps : List (Nat × Value)) (z : Value) (cells : Array Value) (h1 : plains st.T parts.toList = some ps) (h2 : P.built t ps = some cells) (hz : .agg cells = z)
    (h : vcx P Q n (.ops dr all rest :: k) (st.put d (val z))) : ExVC P Q n dr all rest k st d (pureOp P st.T (.build t parts)) := ⟨z, hz ▸ bldG h1 h2, h⟩

end
end Go.Sx
namespace Go.Sx
section
variable {P : Program} {Q : St → Prop} {T : Nat → AV} {M : MemF} {id : Nat}
def cvk (k : Option IntKind) (n : Int) (fb : Eff) : Eff := match k with
  | some k => .ok True (val (.int k (k.wrap n)))
  | none => fb
def cvs (s : Option TypeDesc) (k : Option IntKind) (n : Int) (fb : Eff) : Eff := match s with
  | some _ => cvk k n fb
  | none => fb
def convEff (P : Program) (T : Nat → AV) (src dst : TypeId) (x : Operand) : AV → Eff
  | .o (.v (.int _ n)) => cvs (P.underlying src) (intT P dst) n (.ex (pureOp P T (.convert src dst x)))
  | _ => .ex (pureOp P T (.convert src dst x))
theorem op_conv {src dst : TypeId} {x : Operand} : opEff P T M id (.convert src dst x) = convEff P T src dst x (ev T x) := by
  simp only [opEff]
  generalize ev T x = v
  unfold convEff cvs cvk
  cases v with
  | t l => rfl
  | o a =>
    cases a with
    | v y => cases y <;> first | rfl | (cases P.underlying src <;> cases intT P dst <;> rfl)
    | _ => rfl
theorem cv_i {src dst : TypeId} {x : Operand} {k : IntKind} {n : Int} : convEff P T src dst x (.o (.v (.int k n))) = cvs (P.underlying src) (intT P dst) n (.ex (pureOp P T (.convert src dst x))) := rfl
theorem cv_u {src dst : TypeId} {x : Operand} {n : Nat} : convEff P T src dst x (.o (.v (u64 n))) = cvs (P.underlying src) (intT P dst) n (.ex (pureOp P T (.convert src dst x))) := rfl
theorem cvs_some {t : TypeDesc} {k : Option IntKind} {n : Int} {fb : Eff} : cvs (some t) k n fb = cvk k n fb := rfl
theorem cvk_u {n : Int} {fb : Eff} : cvk (some .u64) n fb = .ok True (val (u64 (n % 18446744073709551616).toNat)) := by
  show Eff.ok _ _ = _
  refine congrArg _ ?_
  unfold u64
  rw [wrap_u64]
  congr 2
  omega
theorem cvk_8 {n : Int} {fb : Eff} : cvk (some .u8) n fb = .ok True (val (.int .u8 (n % 256))) := by
  show Eff.ok _ _ = _
  simp [IntKind.wrap, IntKind.bits, IntKind.signed]
theorem cvk_i {n : Int} {fb : Eff} : cvk (some .i64) n fb = .ok True (val (.int .i64 ((n + 9223372036854775808) % 18446744073709551616 - 9223372036854775808))) := by
  show Eff.ok _ _ = _
  rw [IntKind.wrap_i64]
def unEff (u : UnOp) : AV → Eff
  | .o (.v (.bool b)) => match u with | .not => .ok True (val (.bool (!b))) | _ => .fail
  | .o (.v (.int k n)) => match u with | .neg => .ok True (val (.int k (k.wrap (0 - n)))) | _ => .fail
  | _ => .fail
theorem op_unop {u : UnOp} {ty : TypeId} {x : Operand} : opEff P T M id (.unOp u ty x) = unEff u (ev T x) := by
  simp only [opEff]
  generalize ev T x = v
  unfold unEff
  cases v with
  | t l => cases u <;> rfl
  | o a =>
    cases a with
    | v y => cases y <;> cases u <;> rfl
    | _ => cases u <;> rfl
theorem un_not {b : Bool} : unEff .not (.o (.v (.bool b))) = .ok True (val (.bool (!b))) := rfl
theorem un_negi {k : IntKind} {n : Int} : unEff .neg (.o (.v (.int k n))) = .ok True (val (.int k (k.wrap (0 - n)))) := rfl
theorem un_negu {n : Nat} : unEff .neg (.o (.v (u64 n))) = .ok True (val (u64 (usub 0 n))) := by
  show Eff.ok _ _ = _
  refine congrArg _ ?_
  simp only [wrap_u64]
  rw [usub_eq]
  unfold u64
  congr 2
  omega
theorem indexString {t : TypeId} {x i : Operand} {s : ByteArray} {k : IntKind} {j : Int} {b : UInt8} (ht : P.underlying t = some .string) (hx : ev T x = .o (.v (.string s))) (hi : ev T i = .o (.v (.int k j)))
    (h0 : 0 ≤ j) (hb : s[j.toNat]? = some b) : pureOp P T (.index t x i) (.int .u8 b.toNat) := by
  intro o f w ho hf _
  have e1 := hf x (by simp [Op.operands]) _ hx
  have e2 := hf i (by simp [Op.operands]) _ hi
  simp [execOp, ho, e1, e2, Instr.index, run_underlying ht, h0, hb, asIntOf]
end
end Go.Sx
namespace Go.Sx
section
variable {P : Program} {T : Nat → AV} {ty ty' : TypeId} {x y : Operand} {k k' : IntKind} {p q : Int} {a b : Bool} {fb : Eff}
theorem b_bb {bop : BinOp} : binOn P T bop ty x y ty' (.o (.v (.bool a))) (.o (.v (.bool b))) = .ex (pureOp P T (.binOp bop ty x y ty')) := rfl
theorem be_add : binEff .add k p k' q fb = .ok (k = k') (val (.int k (k.wrap (p + q)))) := rfl
theorem be_sub : binEff .sub k p k' q fb = .ok (k = k') (val (.int k (k.wrap (p - q)))) := rfl
theorem be_mul : binEff .mul k p k' q fb = .ok (k = k') (val (.int k (k.wrap (p * q)))) := rfl
theorem be_and : binEff .and k p k' q fb = .ok (k = k') (val (.int k (bits .and k p q))) := rfl
theorem be_or : binEff .or k p k' q fb = .ok (k = k') (val (.int k (bits .or k p q))) := rfl
theorem be_xor : binEff .xor k p k' q fb = .ok (k = k') (val (.int k (bits .xor k p q))) := rfl
theorem be_eql : binEff .eql k p k' q fb = .ok (k = k') (val (.bool (p == q))) := rfl
theorem be_neq : binEff .neq k p k' q fb = .ok (k = k') (val (.bool (p != q))) := rfl
theorem be_lss : binEff .lss k p k' q fb = .ok (k = k') (val (.bool (decide (p < q)))) := rfl
theorem be_leq : binEff .leq k p k' q fb = .ok (k = k') (val (.bool (decide (p ≤ q)))) := rfl
theorem be_gtr : binEff .gtr k p k' q fb = .ok (k = k') (val (.bool (decide (q < p)))) := rfl
theorem be_geq : binEff .geq k p k' q fb = .ok (k = k') (val (.bool (decide (q ≤ p)))) := rfl
theorem bn_s {bop : BinOp} {k off n : Nat} : binOn P T bop ty x y ty' (.o (.s k off n)) (.o (.v (.slice none 0 0))) = nilEff bop (slI P ty) n := rfl
theorem bn_r {bop : BinOp} {k n : Nat} : binOn P T bop ty x y ty' (.o (.r k n)) (.o (.v (.slice none 0 0))) = nilEff bop (slI P ty) n := rfl
theorem ne_eql {s n : Nat} : nilEff .eql (some s) n = .nd (fun b => b = true → n = 0) := rfl
theorem ne_neq {s n : Nat} : nilEff .neq (some s) n = .nd (fun b => b = false → n = 0) := rfl
theorem pk_0 : packA [] = .t [] := rfl
theorem pk_1 {a : A0} : packA [a] = .o a := rfl
theorem pk_2 {a b : A0} {l : List A0} : packA (a :: b :: l) = .t (a :: b :: l) := rfl
theorem wr0 : IntKind.i64.wrap 0 = 0 := by decide
theorem wrm1 : IntKind.i64.wrap (-1) = -1 := by decide
end
theorem SX : type_of% (And.intro (And.intro (And.intro (And.intro (And.intro (And.intro (And.intro @v_nil (And.intro @v_stop @v_block)) (And.intro (And.intro @v_end @v_op) (And.intro @v_guard @v_skip))) (And.intro (And.intro (And.intro @v_region @v_regionD) (And.intro @v_seq @v_cond)) (And.intro (And.intro @v_blk @v_loop) (And.intro @x_code @x_ops)))) (And.intro (And.intro (And.intro (And.intro @x_stop @x_here) (And.intro @x_out @v_ret)) (And.intro (And.intro @gs_0 @gs_s) (And.intro @ga_some @g_fail))) (And.intro (And.intro (And.intro @g_ok @g_ex) (And.intro @g_call @g_clo)) (And.intro (And.intro @g_nd @g_raw) (And.intro @v_range @bn_s))))) (And.intro (And.intro (And.intro (And.intro (And.intro @bn_r @ne_eql) (And.intro @ne_neq @T_at)) (And.intro (And.intro @ev_tmp @ev_const) (And.intro @ev_func @put_some))) (And.intro (And.intro (And.intro @put_none @see_at) (And.intro @updm_nil @updm_one)) (And.intro (And.intro @op_conv @op_unop) (And.intro @cv_i @cv_u)))) (And.intro (And.intro (And.intro (And.intro @cvs_some @cvk_u) (And.intro @cvk_8 @cvk_i)) (And.intro (And.intro @un_not @un_negi) (And.intro @un_negu @cond_t))) (And.intro (And.intro (And.intro @cond_f @guard_tt) (And.intro @guard_ff @guard_tf)) (And.intro (And.intro @guard_ft @guard_un) (And.intro @b_ii @b_bb)))))) (And.intro (And.intro (And.intro (And.intro (And.intro @b_add (And.intro @b_sub @b_mul)) (And.intro (And.intro @b_quo @b_rem) (And.intro @b_shr @b_shl))) (And.intro (And.intro (And.intro @b_shr_u @b_shl_u) (And.intro @b_and @b_or)) (And.intro (And.intro @umul_zero @uand32) (And.intro @uand1 @b_eql)))) (And.intro (And.intro (And.intro (And.intro @b_neq @b_lss) (And.intro @b_leq @b_gtr)) (And.intro (And.intro @b_geq @be_add) (And.intro @be_sub @be_mul))) (And.intro (And.intro (And.intro @be_and @be_or) (And.intro @be_xor @be_eql)) (And.intro (And.intro @be_neq @be_lss) (And.intro @be_leq @be_gtr))))) (And.intro (And.intro (And.intro (And.intro (And.intro @be_geq @pk_0) (And.intro @pk_1 @pk_2)) (And.intro (And.intro @cellsU @oneU) (And.intro @oneI @oneB))) (And.intro (And.intro (And.intro @cellsI @cellsB) (And.intro @i0 @i1)) (And.intro (And.intro @wr0 @wr1) (And.intro @wr2 @wr3)))) (And.intro (And.intro (And.intro (And.intro @wr4 @wrm1) (And.intro @Nat.add_zero @Nat.zero_add)) (And.intro (And.intro @true_and @and_true) (And.intro @Int.cast_ofNat_Int @decide_true))) (And.intro (And.intro (And.intro @decide_false @not_false_eq_true) (And.intro @Nat.not_lt_zero @Nat.mul_one)) (And.intro (And.intro @Nat.one_mul @Nat.zero_mul) (And.intro @Nat.mul_zero @Bool.not_true))))))) (And.intro (And.intro (And.intro (And.intro (And.intro (And.intro @Bool.not_false (And.intro @Bool.and_self @Bool.and_true)) (And.intro (And.intro @Bool.true_and @List.getD_cons_zero.{0}) (And.intro @List.getD_cons_succ.{0} @List.set_cons_zero.{0}))) (And.intro (And.intro (And.intro @List.set_cons_succ.{0} @List.getElem?_cons_zero.{0}) (And.intro @List.getElem?_cons_succ.{0} @List.nil_append.{0})) (And.intro (And.intro @List.cons_append.{0} @List.length_cons.{0}) (And.intro @List.length_nil.{0} @List.take_succ_cons.{0})))) (And.intro (And.intro (And.intro (And.intro @List.take_zero.{0} @List.drop_succ_cons.{0}) (And.intro @List.drop_zero.{0} @List.take_nil.{0})) (And.intro (And.intro @List.drop_nil.{0} @List.all_cons.{0}) (And.intro @List.all_nil.{0} @List.nodup_nil.{0}))) (And.intro (And.intro (And.intro @Option.bind_some.{0, 0} @Option.map_some.{0, 0}) (And.intro @Option.map_none.{0, 0} @List.map_cons.{0, 0})) (And.intro (And.intro @List.map_nil.{0, 0} @ne_eq.{1}) (And.intro @ressA.eq_1 @ressA.eq_2))))) (And.intro (And.intro (And.intro (And.intro (And.intro @resA.eq_1 @resA.eq_2) (And.intro @resA.eq_3 @resA.eq_4)) (And.intro (And.intro @resA.eq_5 @ressE.eq_1) (And.intro @ressE.eq_2 @resE.eq_1))) (And.intro (And.intro (And.intro @resE.eq_2 @resE.eq_3) (And.intro @resE.eq_4 @resE.eq_5)) (And.intro (And.intro @plain.eq_1 @plains.eq_1) (And.intro @plains.eq_2 @sliceCells.eq_1)))) (And.intro (And.intro (And.intro (And.intro @sliceCells.eq_2 @sliceCells.eq_3) (And.intro @val.eq_1 @binEff.eq_1)) (And.intro (And.intro @binEff.eq_2 @binEff.eq_3) (And.intro @binEff.eq_4 @loadEff.eq_1))) (And.intro (And.intro (And.intro @storeEff.eq_1 @sliceEff.eq_1) (And.intro @sliceEff.eq_2 @sliceEff.eq_3)) (And.intro (And.intro @sliceEff.eq_4 @sliceEff.eq_5) (And.intro @RetQ.eq_1 @retAll.eq_1)))))) (And.intro (And.intro (And.intro (And.intro (And.intro (And.intro @retAll.eq_2 @retA.eq_1) (And.intro @retA.eq_2 @retA.eq_3)) (And.intro (And.intro @retIds.eq_1 @retIds.eq_2) (And.intro @retIds.eq_3 @resMatch.eq_1))) (And.intro (And.intro (And.intro @resMatch.eq_2 @resMatch.eq_3) (And.intro @resMatch.eq_4 @resMatch.eq_5)) (And.intro (And.intro @resMatch.eq_6 @resMatch.eq_7) (And.intro @resMatch.eq_8 @resMatch.eq_9)))) (And.intro (And.intro (And.intro (And.intro @resMatch.eq_10 @Mem.get.eq_1) (And.intro @Mem.get.eq_2 @Ent.cells.eq_1)) (And.intro (And.intro @Ent.cells.eq_2 @Ent.cells.eq_3) (And.intro @Ent.cells.eq_4 @Ent.cells.eq_5))) (And.intro (And.intro (And.intro @Ent.cells.eq_6 @Ent.cells.eq_7) (And.intro @opEff.eq_1 @opEff.eq_2)) (And.intro (And.intro @opEff.eq_3 @opEff.eq_4) (And.intro @opEff.eq_5 @opEff.eq_6))))) (And.intro (And.intro (And.intro (And.intro (And.intro @opEff.eq_7 @opEff.eq_8) (And.intro @opEff.eq_9 @opEff.eq_10)) (And.intro (And.intro @opEff.eq_11 @opEff.eq_12) (And.intro @opEff.eq_13 @opEff.eq_14))) (And.intro (And.intro (And.intro @opEff.eq_15 @opEff.eq_20) (And.intro @opEff.eq_21 @opEff.eq_22)) (And.intro (And.intro @opEff.eq_23 @opEff.eq_24) (And.intro @opEff.eq_25 @boxEff.eq_1)))) (And.intro (And.intro (And.intro (And.intro @boxEff.eq_2 @boxEff.eq_3) (And.intro @boxEff.eq_4 @boxEff.eq_5)) (And.intro (And.intro @boxEff.eq_6 @storeA.eq_1) (And.intro @storeA.eq_2 @storeA.eq_3))) (And.intro (And.intro (And.intro @storeA.eq_4 @storeA.eq_5) (And.intro @storeA.eq_6 @storeRef.eq_1)) (And.intro (And.intro @hdrLoad.eq_1 @fnEff.eq_1) (And.intro @boxKs.eq_1 @boxKs.eq_2)))))))) :=
  (And.intro (And.intro (And.intro (And.intro (And.intro (And.intro (And.intro @v_nil (And.intro @v_stop @v_block)) (And.intro (And.intro @v_end @v_op) (And.intro @v_guard @v_skip))) (And.intro (And.intro (And.intro @v_region @v_regionD) (And.intro @v_seq @v_cond)) (And.intro (And.intro @v_blk @v_loop) (And.intro @x_code @x_ops)))) (And.intro (And.intro (And.intro (And.intro @x_stop @x_here) (And.intro @x_out @v_ret)) (And.intro (And.intro @gs_0 @gs_s) (And.intro @ga_some @g_fail))) (And.intro (And.intro (And.intro @g_ok @g_ex) (And.intro @g_call @g_clo)) (And.intro (And.intro @g_nd @g_raw) (And.intro @v_range @bn_s))))) (And.intro (And.intro (And.intro (And.intro (And.intro @bn_r @ne_eql) (And.intro @ne_neq @T_at)) (And.intro (And.intro @ev_tmp @ev_const) (And.intro @ev_func @put_some))) (And.intro (And.intro (And.intro @put_none @see_at) (And.intro @updm_nil @updm_one)) (And.intro (And.intro @op_conv @op_unop) (And.intro @cv_i @cv_u)))) (And.intro (And.intro (And.intro (And.intro @cvs_some @cvk_u) (And.intro @cvk_8 @cvk_i)) (And.intro (And.intro @un_not @un_negi) (And.intro @un_negu @cond_t))) (And.intro (And.intro (And.intro @cond_f @guard_tt) (And.intro @guard_ff @guard_tf)) (And.intro (And.intro @guard_ft @guard_un) (And.intro @b_ii @b_bb)))))) (And.intro (And.intro (And.intro (And.intro (And.intro @b_add (And.intro @b_sub @b_mul)) (And.intro (And.intro @b_quo @b_rem) (And.intro @b_shr @b_shl))) (And.intro (And.intro (And.intro @b_shr_u @b_shl_u) (And.intro @b_and @b_or)) (And.intro (And.intro @umul_zero @uand32) (And.intro @uand1 @b_eql)))) (And.intro (And.intro (And.intro (And.intro @b_neq @b_lss) (And.intro @b_leq @b_gtr)) (And.intro (And.intro @b_geq @be_add) (And.intro @be_sub @be_mul))) (And.intro (And.intro (And.intro @be_and @be_or) (And.intro @be_xor @be_eql)) (And.intro (And.intro @be_neq @be_lss) (And.intro @be_leq @be_gtr))))) (And.intro (And.intro (And.intro (And.intro (And.intro @be_geq @pk_0) (And.intro @pk_1 @pk_2)) (And.intro (And.intro @cellsU @oneU) (And.intro @oneI @oneB))) (And.intro (And.intro (And.intro @cellsI @cellsB) (And.intro @i0 @i1)) (And.intro (And.intro @wr0 @wr1) (And.intro @wr2 @wr3)))) (And.intro (And.intro (And.intro (And.intro @wr4 @wrm1) (And.intro @Nat.add_zero @Nat.zero_add)) (And.intro (And.intro @true_and @and_true) (And.intro @Int.cast_ofNat_Int @decide_true))) (And.intro (And.intro (And.intro @decide_false @not_false_eq_true) (And.intro @Nat.not_lt_zero @Nat.mul_one)) (And.intro (And.intro @Nat.one_mul @Nat.zero_mul) (And.intro @Nat.mul_zero @Bool.not_true))))))) (And.intro (And.intro (And.intro (And.intro (And.intro (And.intro @Bool.not_false (And.intro @Bool.and_self @Bool.and_true)) (And.intro (And.intro @Bool.true_and @List.getD_cons_zero.{0}) (And.intro @List.getD_cons_succ.{0} @List.set_cons_zero.{0}))) (And.intro (And.intro (And.intro @List.set_cons_succ.{0} @List.getElem?_cons_zero.{0}) (And.intro @List.getElem?_cons_succ.{0} @List.nil_append.{0})) (And.intro (And.intro @List.cons_append.{0} @List.length_cons.{0}) (And.intro @List.length_nil.{0} @List.take_succ_cons.{0})))) (And.intro (And.intro (And.intro (And.intro @List.take_zero.{0} @List.drop_succ_cons.{0}) (And.intro @List.drop_zero.{0} @List.take_nil.{0})) (And.intro (And.intro @List.drop_nil.{0} @List.all_cons.{0}) (And.intro @List.all_nil.{0} @List.nodup_nil.{0}))) (And.intro (And.intro (And.intro @Option.bind_some.{0, 0} @Option.map_some.{0, 0}) (And.intro @Option.map_none.{0, 0} @List.map_cons.{0, 0})) (And.intro (And.intro @List.map_nil.{0, 0} @ne_eq.{1}) (And.intro @ressA.eq_1 @ressA.eq_2))))) (And.intro (And.intro (And.intro (And.intro (And.intro @resA.eq_1 @resA.eq_2) (And.intro @resA.eq_3 @resA.eq_4)) (And.intro (And.intro @resA.eq_5 @ressE.eq_1) (And.intro @ressE.eq_2 @resE.eq_1))) (And.intro (And.intro (And.intro @resE.eq_2 @resE.eq_3) (And.intro @resE.eq_4 @resE.eq_5)) (And.intro (And.intro @plain.eq_1 @plains.eq_1) (And.intro @plains.eq_2 @sliceCells.eq_1)))) (And.intro (And.intro (And.intro (And.intro @sliceCells.eq_2 @sliceCells.eq_3) (And.intro @val.eq_1 @binEff.eq_1)) (And.intro (And.intro @binEff.eq_2 @binEff.eq_3) (And.intro @binEff.eq_4 @loadEff.eq_1))) (And.intro (And.intro (And.intro @storeEff.eq_1 @sliceEff.eq_1) (And.intro @sliceEff.eq_2 @sliceEff.eq_3)) (And.intro (And.intro @sliceEff.eq_4 @sliceEff.eq_5) (And.intro @RetQ.eq_1 @retAll.eq_1)))))) (And.intro (And.intro (And.intro (And.intro (And.intro (And.intro @retAll.eq_2 @retA.eq_1) (And.intro @retA.eq_2 @retA.eq_3)) (And.intro (And.intro @retIds.eq_1 @retIds.eq_2) (And.intro @retIds.eq_3 @resMatch.eq_1))) (And.intro (And.intro (And.intro @resMatch.eq_2 @resMatch.eq_3) (And.intro @resMatch.eq_4 @resMatch.eq_5)) (And.intro (And.intro @resMatch.eq_6 @resMatch.eq_7) (And.intro @resMatch.eq_8 @resMatch.eq_9)))) (And.intro (And.intro (And.intro (And.intro @resMatch.eq_10 @Mem.get.eq_1) (And.intro @Mem.get.eq_2 @Ent.cells.eq_1)) (And.intro (And.intro @Ent.cells.eq_2 @Ent.cells.eq_3) (And.intro @Ent.cells.eq_4 @Ent.cells.eq_5))) (And.intro (And.intro (And.intro @Ent.cells.eq_6 @Ent.cells.eq_7) (And.intro @opEff.eq_1 @opEff.eq_2)) (And.intro (And.intro @opEff.eq_3 @opEff.eq_4) (And.intro @opEff.eq_5 @opEff.eq_6))))) (And.intro (And.intro (And.intro (And.intro (And.intro @opEff.eq_7 @opEff.eq_8) (And.intro @opEff.eq_9 @opEff.eq_10)) (And.intro (And.intro @opEff.eq_11 @opEff.eq_12) (And.intro @opEff.eq_13 @opEff.eq_14))) (And.intro (And.intro (And.intro @opEff.eq_15 @opEff.eq_20) (And.intro @opEff.eq_21 @opEff.eq_22)) (And.intro (And.intro @opEff.eq_23 @opEff.eq_24) (And.intro @opEff.eq_25 @boxEff.eq_1)))) (And.intro (And.intro (And.intro (And.intro @boxEff.eq_2 @boxEff.eq_3) (And.intro @boxEff.eq_4 @boxEff.eq_5)) (And.intro (And.intro @boxEff.eq_6 @storeA.eq_1) (And.intro @storeA.eq_2 @storeA.eq_3))) (And.intro (And.intro (And.intro @storeA.eq_4 @storeA.eq_5) (And.intro @storeA.eq_6 @storeRef.eq_1)) (And.intro (And.intro @hdrLoad.eq_1 @fnEff.eq_1) (And.intro @boxKs.eq_1 @boxKs.eq_2))))))))
end Go.Sx
namespace Go.Sx

/-! ### a loop that forgets -/
def dstOps : List Oper → List Nat
  | [] => []
  | ⟨some d, _, _, _, _, _⟩ :: l => d :: dstOps l
  | ⟨none, _, _, _, _, _⟩ :: l => dstOps l
def dsts : Code → List Nat
  | .region _ ops _ => dstOps ops.toList
  | .seq a b => dsts a ++ dsts b
  | .cond _ a b => dsts a ++ dsts b
  | .block _ c => dsts c
  | .loop c => dsts c
  | .scope c => dsts c
  | _ => []
def hav : List Nat → List AV → List AV
  | [], t => t
  | d :: ds, t => hav ds (t.set d (.o .any))
/-- Tuples are forgotten. -/
def noT : List AV → List AV
  | [] => []
  | .o a :: l => .o a :: noT l
  | .t _ :: l => .o .any :: noT l
theorem nt_0 : noT [] = [] := rfl
theorem nt_o {a l} : noT (.o a :: l) = .o a :: noT l := rfl
theorem nt_t {a l} : noT (.t a :: l) = .o .any :: noT l := rfl
def upT : List (Nat × AV) → List AV → List AV
  | [], t => t
  | (i, v) :: l, t => upT l (t.set i v)
def upE : List (Nat × Ent) → Mem → Mem
  | [], m => m
  | (k, e) :: l, m => upE l (m.map fun y => (y.1, if y.1 = k then e else y.2))
theorem ds_some {d op ty pos after g} {l : List Oper} : dstOps (⟨some d, op, ty, pos, after, g⟩ :: l) = d :: dstOps l := rfl
theorem ds_none {op ty pos after g} {l : List Oper} : dstOps (⟨none, op, ty, pos, after, g⟩ :: l) = dstOps l := rfl
theorem ds_nil : dstOps [] = [] := rfl
theorem ds_region {id dr} {l : List Oper} : dsts (.region id l.toArray dr) = dstOps l := rfl
theorem ds_seq {a b : Code} : dsts (.seq a b) = dsts a ++ dsts b := rfl
theorem ds_cond {c} {a b : Code} : dsts (.cond c a b) = dsts a ++ dsts b := rfl
theorem ds_block {id} {a : Code} : dsts (.block id a) = dsts a := rfl
theorem ds_loop {a : Code} : dsts (.loop a) = dsts a := rfl
theorem ds_scope {a : Code} : dsts (.scope a) = dsts a := rfl
theorem ds_skip : dsts .skip = [] := rfl
theorem ds_exit {id} : dsts (.exit id) = [] := rfl
theorem ds_ret : dsts .ret = [] := rfl
theorem hav_nil {t} : hav [] t = t := rfl
theorem hav_cons {d ds t} : hav (d :: ds) t = hav ds (t.set d (.o .any)) := rfl
@[congr] theorem dstOps_congr {l : List Oper} : dstOps l = dstOps l := rfl
@[congr] theorem dsts_congr {c : Code} : dsts c = dsts c := rfl
theorem up_nil {t} : upT [] t = t := rfl
theorem up_cons {i v l t} : upT ((i, v) :: l) t = upT l (t.set i v) := rfl
theorem ue_nil {m} : upE [] m = m := rfl
theorem ue_cons {k e l m} : upE ((k, e) :: l) m = upE l (m.map fun y => (y.1, if y.1 = k then e else y.2)) := rfl

section
variable {P : Program} {Q : St → Prop}
/-- The loop is to be gone through; t' is what the slots are known to be all the time. -/
def LoopH (P : Program) (Q : St → Prop) (c : Code) (k : List Frm) (st : St) (_ : List AV) : Prop := LoopX P Q c k st
theorem loop_hav {c k t m n} (h : LoopH P Q c k ⟨t, m, n⟩ (noT (hav (dsts c) t))) : LoopX P Q c k ⟨t, m, n⟩ := h
@[congr] theorem LoopH_congr {c k st} {t t' : List AV} (h : t = t') : LoopH P Q c k st t = LoopH P Q c k st t' := by rw [h]
/-- The rule: what changes from round to round is told by g. -/
theorem loop_go {c : Code} {k : List Frm} {t t' : List AV} {m : Mem} {n : Nat} {γ : Type} (hm : P.follows .mixedOrders = true) (hk : noOps k) (G : γ → Prop) (μ : γ → Nat) (ts : γ → List (Nat × AV)) (es : γ → List (Nat × Ent)) (g0 : γ) (h0 : G g0)
    (hle : St.le ⟨t, m, n⟩ ⟨upT (ts g0) t', upE (es g0) m, n⟩)
    (round : ∀ g, G g → vcx P Q 1000 (.code c :: .stop (fun s => ∃ g', G g' ∧ μ g' < μ g ∧ St.le s ⟨upT (ts g') t', upE (es g') m, n⟩) :: k) ⟨upT (ts g) t', upE (es g) m, n⟩) : LoopH P Q c k ⟨t, m, n⟩ t' :=
  loop_inv hm hk (fun g => ⟨upT (ts g) t', upE (es g) m, n⟩) G μ g0 h0 hle 1000 round
end

/-! ### a pure operation's value is one -/
section
variable {P : Program} {Q : St → Prop} {T : Nat → AV}
def asgV : AV → Operand → Value
  | .o (.v y), _ => y
  | _, .func f => .func (.func f) #[] #[]
  | _, _ => undef
theorem pureOp_one {op : Op} {z z' : Value} (h : pureOp P T op z) (h' : pureOp P T op z') : z = z' := by
  let a : Operand → Value := fun x => asgV (ev T x) x
  have ha : ∀ x ∈ op.operands, ∀ y, ev T x = .o (.v y) → a x = y := by
    intro x _ y hy
    show asgV (ev T x) x = y
    rw [hy]
    rfl
  have h1 := h ⟨none, op, 0, "", #[], none⟩ a default rfl ha (fun _ => rfl)
  have h2 := h' ⟨none, op, 0, "", #[], none⟩ a default rfl ha (fun _ => rfl)
  rw [h1] at h2
  simpa using h2
theorem ex_one {n dr all rest k st d} {op : Op} {z : Value} (h : pureOp P T op z) : ExVC P Q n dr all rest k st d (pureOp P T op) = vcx P Q n (.ops dr all rest :: k) (st.put d (val z)) := by
  refine propext ⟨?_, fun hv => ⟨z, h, hv⟩⟩
  rintro ⟨z', h', hv⟩
  rw [pureOp_one h h']
  exact hv

/-! ### build -/
def bldI (P : Program) (t : TypeId) : Option (List Value × List (Nat × Nat)) :=
  match P.info? t, P.underlying t with
  | some it, some (.array n e) =>
    match it.zero, P.info? e with
    | some z, some ie => some (z.cells.toList, (List.range n).map fun i => (i * ie.size, ie.size))
    | _, _ => none
  | some it, some (.struct fields) =>
    match it.zero, fields.toList.mapM (fun f => (P.info? f.type).map fun i => (f.offset, i.size)) with
    | some z, some places => some (z.cells.toList, places)
    | _, _ => none
  | _, _ => none
def putL (pl : List (Nat × Nat)) : List Value → List (Nat × Value) → Option (List Value)
  | zs, [] => some zs
  | zs, (i, v) :: r => match pl[i]? with
    | some (off, size) => if v.cells.toList.length = size ∧ off + size ≤ zs.length then putL pl (zs.take off ++ v.cells.toList ++ zs.drop (off + size)) r else none
    | none => none
theorem fold_put (off : Nat) : ∀ (vs : List Value) (k : Nat) (cs : Array Value), off + k + vs.length ≤ cs.size →
    ((vs.zipIdx k).foldl (fun cs (c, j) => cs.setIfInBounds (off + j) c) cs) = (cs.toList.take (off + k) ++ vs ++ cs.toList.drop (off + k + vs.length)).toArray
  | [], k, cs, _ => by simp
  | v :: vs, k, cs, h => by
    simp only [List.length_cons] at h
    rw [List.zipIdx_cons, List.foldl_cons, fold_put off vs (k + 1) _ (by simp; omega)]
    have e : (cs.setIfInBounds (off + k) v).toList = cs.toList.set (off + k) v := by simp
    rw [e]
    congr 1
    rw [show off + (k + 1) = off + k + 1 by omega]
    have h1 : (cs.toList.set (off + k) v).take (off + k + 1) = cs.toList.take (off + k) ++ [v] := by
      rw [List.set_eq_take_append_cons_drop, if_pos (by simp; omega), List.take_append]
      simp
      have hm : min (off + k) cs.size = off + k := by omega
      rw [hm, show off + k + 1 - (off + k) = 1 by omega, List.take_take, show min (off + k + 1) (off + k) = off + k by omega]
      simp
    have h2 : (cs.toList.set (off + k) v).drop (off + k + 1 + vs.length) = cs.toList.drop (off + k + (vs.length + 1)) := by
      rw [List.drop_set_of_lt (by omega)]
      congr 1; omega
    rw [h1, h2]
    simp
theorem fill_put {place : Nat → Option (Nat × Nat)} {pl : List (Nat × Nat)} (hp : ∀ i x, pl[i]? = some x → place i = some x) : ∀ {ps : List (Nat × Value)} {zs cs : List Value}, putL pl zs ps = some cs → Instr.fill place zs.toArray ps = some cs.toArray
  | [], zs, cs, h => by simp only [putL, Option.some.injEq] at h; subst h; rfl
  | (i, v) :: r, zs, cs, h => by
    simp only [putL] at h
    cases hi : pl[i]? with
    | none => simp [hi] at h
    | some x =>
      obtain ⟨off, size⟩ := x
      simp only [hi] at h
      split at h
      · rename_i hc
        have hpl := hp i _ hi
        have hs : v.cells.size = size := by simpa using hc.1
        have ih := fill_put hp h
        simp only [Instr.fill, hpl, hs, ne_eq, not_true_eq_false, false_or]
        rw [if_neg (by have := hc.2; simp; omega)]
        have hf := fold_put off v.cells.toList 0 zs.toArray (by have := hc.2; simp at this ⊢; omega)
        have hz : v.cells.zipIdx.foldl (fun cs x => cs.setIfInBounds (off + x.2) x.1) zs.toArray = (v.cells.toList.zipIdx 0).foldl (fun cs x => cs.setIfInBounds (off + x.2) x.1) zs.toArray := by
          rw [← Array.foldl_toList, Array.toList_zipIdx]
        have hsl : v.cells.toList.length = size := hc.1
        rw [hsl] at hf
        simp only [Nat.add_zero] at hf
        rw [hz]
        exact (congrArg (fun z => Instr.fill place z r) hf).trans ih
      · cases h
theorem built_put {t : TypeId} {zs : List Value} {pl : List (Nat × Nat)} {ps : List (Nat × Value)} {cs : List Value} (h : bldI P t = some (zs, pl)) (hc : putL pl zs ps = some cs) : P.built t ps = some cs.toArray := by
  unfold bldI at h
  unfold Program.built
  split at h
  · rename_i it n e hi hu
    split at h
    · rename_i z ie hz hie
      simp only [Option.some.injEq, Prod.mk.injEq] at h
      obtain ⟨rfl, rfl⟩ := h
      simp only [hi, hu, hz, hie]
      have := fill_put (place := fun i => some (i * ie.size, ie.size)) (by intro i x hx; simp only [List.getElem?_map, Option.map_eq_some_iff] at hx; obtain ⟨q, hq, rfl⟩ := hx; have := (List.getElem?_eq_some_iff.1 hq).2; simp at this; rw [this]) hc
      simpa using this
    · cases h
  · rename_i it fields hi hu
    split at h
    · rename_i z places hz hpl
      simp only [Option.some.injEq, Prod.mk.injEq] at h
      obtain ⟨rfl, rfl⟩ := h
      simp only [hi, hu, hz, hpl]
      have := fill_put (place := (places.toArray[·]?)) (by intro i x hx; simpa using hx) hc
      simpa using this
    · cases h
  · cases h
def bldV (P : Program) (T : Nat → AV) (t : TypeId) (parts : List (Nat × Operand)) : Option Value :=
  match bldI P t, plains T parts with
  | some (zs, pl), some ps => (putL pl zs ps).map fun cs => .agg cs.toArray
  | _, _ => none
def exGo (P : Program) (Q : St → Prop) (n : Nat) (dr : Md) (all rest : List Oper) (k : List Frm) (st : St) (d : Option Nat) (S : Value → Prop) : Option Value → Prop
  | some z => vcx P Q n (.ops dr all rest :: k) (st.put d (val z))
  | none => ExVC P Q n dr all rest k st d S
theorem ex_some {n dr all rest k st d S z} : exGo P Q n dr all rest k st d S (some z) = vcx P Q n (.ops dr all rest :: k) (st.put d (val z)) := rfl
theorem x_build {n dr all rest k st d} {t : TypeId} {parts : List (Nat × Operand)} : ExVC P Q n dr all rest k st d (pureOp P T (.build t parts.toArray)) = exGo P Q n dr all rest k st d (pureOp P T (.build t parts.toArray)) (bldV P T t parts) := by
  cases h : bldV P T t parts with
  | none => rfl
  | some z =>
    unfold bldV at h
    split at h
    · rename_i zs pl ps h1 h2
      simp only [Option.map_eq_some_iff] at h
      obtain ⟨cs, hcs, rfl⟩ := h
      exact ex_one (bldG (by simpa using h2) (built_put h1 hcs))
    · cases h
@[congr] theorem exGo_congr {n dr all rest k d S} {st st' : St} {z z' : Option Value} (h : st = st') (h2 : z = z') : exGo P Q n dr all rest k st d S z = exGo P Q n dr all rest k st' d S z' := by rw [h, h2]
theorem putL_nil {pl zs} : putL pl zs [] = some zs := rfl
theorem putL_cons {pl zs i v r} : putL pl zs ((i, v) :: r) = match pl[i]? with
    | some (off, size) => if v.cells.toList.length = size ∧ off + size ≤ zs.length then putL pl (zs.take off ++ v.cells.toList ++ zs.drop (off + size)) r else none
    | none => none := rfl
end
/-! ### a slice's literal -/
def plF (size : Nat) : Nat → Nat → List (Nat × Nat)
  | _, 0 => []
  | k, n + 1 => (k * size, size) :: plF size (k + 1) n
def zsF (zero : List Value) : Nat → List Value
  | 0 => []
  | n + 1 => zero ++ zsF zero n
theorem plF_at {size : Nat} : ∀ {n k i : Nat} {x : Nat × Nat}, (plF size k n)[i]? = some x → x = ((k + i) * size, size)
  | 0, _, _, _, h => by simp [plF] at h
  | n + 1, k, 0, x, h => by simp [plF] at h; simp [← h]
  | n + 1, k, i + 1, x, h => by
    have := plF_at (n := n) (k := k + 1) (i := i) (by simpa [plF] using h)
    rw [this]; congr 2; omega
theorem zsF_len {zero : List Value} : ∀ n, (zsF zero n).length = n * zero.length
  | 0 => by simp [zsF]
  | n + 1 => by rw [zsF, List.length_append, zsF_len n, Nat.add_mul, Nat.one_mul, Nat.add_comm]
theorem zsF_at {zero : List Value} (hz : 0 < zero.length) : ∀ (n j : Nat), j < n * zero.length → (zsF zero n)[j]? = zero[j % zero.length]?
  | 0, j, h => by simp at h
  | n + 1, j, h => by
    rw [zsF]
    by_cases hj : j < zero.length
    · rw [List.getElem?_append_left hj, Nat.mod_eq_of_lt hj]
    · rw [List.getElem?_append_right (by omega), zsF_at hz n _ (by rw [Nat.add_mul, Nat.one_mul] at h; omega)]
      congr 1
      rw [← Nat.mod_eq_sub_mod (by omega)]
def bsGo (r : Option (List Value)) (fb : Option (Array Value)) : Option (Array Value) := match r with
  | some cs => some cs.toArray
  | none => fb
theorem bs_some {cs fb} : bsGo (some cs) fb = some cs.toArray := rfl
def bsL (len size : Nat) (zero : List Value) (parts : List (Nat × Value)) : Option (List Value) := if zero.length = size ∧ 0 < size then putL (plF size 0 len) (zsF zero len) parts else none
theorem bs_go {len size : Nat} {zero : List Value} {parts : List (Nat × Value)} : bsCells len size zero parts = bsGo (bsL len size zero parts) (hid bsCells len size zero parts) := by
  cases h : bsL len size zero parts with
  | none => unfold bsGo; rw [hid_eq]
  | some cs =>
    unfold bsL at h
    split at h
    · rename_i hc
      rw [bs_some]
      unfold bsCells
      have hr : ((Array.range (len * size)).map fun j => zero.toArray[j % zero.toArray.size]!) = (zsF zero len).toArray := by
        apply Array.ext'
        apply List.ext_getElem?
        intro j
        simp only [Array.toList_map, List.getElem?_map, Array.toList_range, List.size_toArray]
        by_cases hj : j < len * size
        · rw [List.getElem?_range hj, zsF_at (by omega) len j (by rw [hc.1]; exact hj)]
          have hm : j % zero.length < zero.length := Nat.mod_lt _ (by omega)
          simp only [Option.map_some]
          rw [getElem!_pos zero.toArray _ (by simpa using hm), List.getElem?_eq_getElem hm]
          simp
        · rw [List.getElem?_eq_none (by simp; omega), List.getElem?_eq_none (by rw [zsF_len, hc.1]; omega)]
          rfl
      rw [hr]
      exact fill_put (fun i x hx => by have := plF_at hx; rw [this, Nat.zero_add]) h
    · cases h
theorem plF_0 {size k} : plF size k 0 = [] := rfl
theorem plF_s {size k n} : plF size k (n + 1) = (k * size, size) :: plF size (k + 1) n := rfl
theorem zsF_0 {zero} : zsF zero 0 = [] := rfl
theorem zsF_s {zero n} : zsF zero (n + 1) = zero ++ zsF zero n := rfl
theorem iu {n : Nat} : Value.int .u64 (no_index (@OfNat.ofNat Int n (@instOfNat n))) = u64 (@OfNat.ofNat Nat n (instOfNatNat n)) := rfl
theorem toA {l : List Value} : l.toArray.toList = l := rfl
theorem mv_0 : movedE [] [] = [] := rfl
theorem mv_mv {k n0 e s n : Nat} {xs : List Value} {l : List AV} {as : List Arg} : movedE (.o (.r k n0) :: l) (.mv e s n xs :: as) = (k, .dead) :: movedE l as := rfl
theorem mv_io {k n0 e s n : Nat} {xs ys : List Value} {l : List AV} {as : List Arg} : movedE (.o (.r k n0) :: l) (.io e s n xs ys :: as) = (k, .row e s n ys) :: movedE l as := rfl
theorem mv_ib {k off : Nat} {xs ys : List Value} {l : List AV} {as : List Arg} : movedE (.o (.p k off) :: l) (.ib xs ys :: as) = (k, .box ys) :: movedE l as := rfl
theorem mv_val {x : AV} {v : Value} {l : List AV} {as : List Arg} : movedE (x :: l) (.val v :: as) = movedE l as := by cases x with | o a => cases a <;> rfl | t l => rfl
theorem mv_sl {x : AV} {n s : Nat} {xs : List Value} {l : List AV} {as : List Arg} : movedE (x :: l) (.sl n s xs :: as) = movedE l as := by cases x with | o a => cases a <;> rfl | t l => rfl
theorem mv_bx {x : AV} {xs : List Value} {l : List AV} {as : List Arg} : movedE (x :: l) (.bx xs :: as) = movedE l as := by cases x with | o a => cases a <;> rfl | t l => rfl
theorem mv_fv {x : AV} {f : Nat} {l : List AV} {as : List Arg} : movedE (x :: l) (.fv f :: as) = movedE l as := by cases x with | o a => cases a <;> rfl | t l => rfl
theorem io_fv {M : MemF} {i f : Nat} {as : List Arg} : ioAll M i (.fv f :: as) = ioAll M (i + 1) as := rfl
theorem io_nil {M : MemF} {i : Nat} : ioAll M i [] = True := rfl
theorem io_io {M : MemF} {i e s n : Nat} {xs ys : List Value} {as : List Arg} : ioAll M i (.io e s n xs ys :: as) = (M i = some (.row e s n ys) ∧ ioAll M (i + 1) as) := rfl
theorem io_val {M : MemF} {i : Nat} {v : Value} {as : List Arg} : ioAll M i (.val v :: as) = ioAll M (i + 1) as := rfl
theorem io_sl {M : MemF} {i n s : Nat} {xs : List Value} {as : List Arg} : ioAll M i (.sl n s xs :: as) = ioAll M (i + 1) as := rfl
theorem io_bx {M : MemF} {i : Nat} {xs : List Value} {as : List Arg} : ioAll M i (.bx xs :: as) = ioAll M (i + 1) as := rfl
theorem io_ib {M : MemF} {i : Nat} {xs ys : List Value} {as : List Arg} : ioAll M i (.ib xs ys :: as) = ((M i = some (.box ys) ∧ ys.isEmpty = false) ∧ ioAll M (i + 1) as) := rfl
/-- The equations for rows in place. -/
theorem IOX : type_of% (And.intro (And.intro (And.intro @mv_0 @mv_mv) (And.intro @mv_io @mv_val)) (And.intro (And.intro @mv_sl @mv_bx) (And.intro (And.intro @io_nil @io_io) (And.intro @io_val (And.intro @io_sl (And.intro @io_bx (And.intro (And.intro @mv_ib @io_ib) (And.intro (And.intro @mv_fv @io_fv) @RetIo.eq_1)))))))) :=
  And.intro (And.intro (And.intro @mv_0 @mv_mv) (And.intro @mv_io @mv_val)) (And.intro (And.intro @mv_sl @mv_bx) (And.intro (And.intro @io_nil @io_io) (And.intro @io_val (And.intro @io_sl (And.intro @io_bx (And.intro (And.intro @mv_ib @io_ib) (And.intro (And.intro @mv_fv @io_fv) @RetIo.eq_1)))))))
theorem mv_1 {k n0 e s n : Nat} {xs : List Value} : movedE [.o (.r k n0)] [.mv e s n xs] = [(k, .dead)] := rfl
theorem cellsA {l : List Value} : (Value.agg l.toArray).cells.toList = l := rfl
abbrev iv (i : Nat) : AV := .o (.v (.int .i64 (i : Int)))
/-- More equations. -/
theorem SYX : type_of% (And.intro (And.intro (And.intro @x_build @ex_some) (And.intro @putL_nil (And.intro @putL_cons (And.intro (And.intro (And.intro @bs_go @bs_some) (And.intro (And.intro @plF_0 @plF_s) (And.intro @zsF_0 @zsF_s))) (And.intro (And.intro @iu (And.intro (And.intro @bsL.eq_1 @toA) (And.intro iv.eq_1 Int.toNat_natCast))) (And.intro (And.intro @cellsA @mv_1) @List.append_nil.{0})))))) (And.intro (And.intro @bldV.eq_1 (And.intro (And.intro @ds_some @ds_none) (And.intro @ds_nil @ds_region))) (And.intro (And.intro (And.intro @ds_seq @ds_cond) (And.intro @ds_block @ds_loop)) (And.intro (And.intro (And.intro @ds_scope @ds_skip) (And.intro @ds_exit @ds_ret)) (And.intro (And.intro (And.intro @hav_nil @hav_cons) (And.intro @nt_0 (And.intro @nt_o @nt_t))) (And.intro (And.intro @up_nil @up_cons) (And.intro @ue_nil @ue_cons))))))) :=
  And.intro (And.intro (And.intro @x_build @ex_some) (And.intro @putL_nil (And.intro @putL_cons (And.intro (And.intro (And.intro @bs_go @bs_some) (And.intro (And.intro @plF_0 @plF_s) (And.intro @zsF_0 @zsF_s))) (And.intro (And.intro @iu (And.intro (And.intro @bsL.eq_1 @toA) (And.intro iv.eq_1 Int.toNat_natCast))) (And.intro (And.intro @cellsA @mv_1) @List.append_nil.{0})))))) (And.intro (And.intro @bldV.eq_1 (And.intro (And.intro @ds_some @ds_none) (And.intro @ds_nil @ds_region))) (And.intro (And.intro (And.intro @ds_seq @ds_cond) (And.intro @ds_block @ds_loop)) (And.intro (And.intro (And.intro @ds_scope @ds_skip) (And.intro @ds_exit @ds_ret)) (And.intro (And.intro (And.intro @hav_nil @hav_cons) (And.intro @nt_0 (And.intro @nt_o @nt_t))) (And.intro (And.intro @up_nil @up_cons) (And.intro @ue_nil @ue_cons))))))

/-! ### lists laid out in cells -/
section
variable {α : Type} {f : α → List Value} {sz : Nat}
def LC (f : α → List Value) (l : List α) : List Value := l.flatMap f
theorem LC_cons (x : α) (l : List α) : LC f (x :: l) = f x ++ LC f l := by simp [LC]
theorem LC_one (x : α) : LC f [x] = f x := by simp [LC]
theorem LC_app (l l' : List α) : LC f l ++ LC f l' = LC f (l ++ l') := by simp [LC]
theorem LC_len (hf : ∀ x, (f x).length = sz) : ∀ l : List α, (LC f l).length = l.length * sz
  | [] => by simp [LC]
  | x :: l => by rw [LC_cons, List.length_append, hf, LC_len hf l, List.length_cons, Nat.add_mul, Nat.one_mul, Nat.add_comm]
theorem LC_drop (hf : ∀ x, (f x).length = sz) : ∀ (l : List α) (j : Nat), (LC f l).drop (j * sz) = LC f (l.drop j)
  | l, 0 => by simp
  | [], j + 1 => by simp [LC]
  | x :: l, j + 1 => by
    have h0 : (f x ++ LC f l).drop sz = LC f l := by have := List.drop_left (l₁ := f x) (l₂ := LC f l); rwa [hf] at this
    rw [LC_cons, List.drop_succ_cons, ← LC_drop hf l j, Nat.add_mul, Nat.one_mul, Nat.add_comm, ← List.drop_drop, h0]
theorem LC_take (hf : ∀ x, (f x).length = sz) : ∀ (l : List α) (j : Nat), (LC f l).take (j * sz) = LC f (l.take j)
  | l, 0 => by simp [LC]
  | [], j + 1 => by simp [LC]
  | x :: l, j + 1 => by
    rw [LC_cons, List.take_succ_cons, LC_cons, ← LC_take hf l j, Nat.add_mul, Nat.one_mul, Nat.add_comm, List.take_append, List.take_of_length_le (by rw [hf]; omega), hf]
    congr 2; omega
theorem LC_at (hf : ∀ x, (f x).length = sz) {l : List α} {j : Nat} {x : α} (h : l[j]? = some x) : ((LC f l).drop (j * sz)).take sz = f x := by
  have hl : l.drop j = x :: l.drop (j + 1) := by
    have hlt := (List.getElem?_eq_some_iff.1 h).1
    rw [List.drop_eq_getElem_cons hlt]
    congr 1
    exact (List.getElem?_eq_some_iff.1 h).2
  rw [LC_drop hf, hl, LC_cons, List.take_append_of_le_length (by rw [hf]; exact Nat.le_refl _), List.take_of_length_le (by rw [hf]; exact Nat.le_refl _)]
theorem LC_set (hf : ∀ x, (f x).length = sz) {l : List α} {j : Nat} (x : α) (h : j < l.length) : (LC f l).take (j * sz) ++ f x ++ (LC f l).drop (j * sz + sz) = LC f (l.set j x) := by
  have e : j * sz + sz = (j + 1) * sz := by rw [Nat.add_mul, Nat.one_mul]
  rw [e, LC_take hf, LC_drop hf, ← LC_one (f := f) x, LC_app, LC_app, List.set_eq_take_append_cons_drop]
  simp [h]
theorem made_LC (hf : ∀ x, (f x).length = sz) (hs : 0 < sz) (z : α) (n : Nat) : (madeCells (f z).toArray (n * sz)).toList = LC f (List.replicate n z) := by
  have hz := hf z
  apply List.ext_getElem?
  intro i
  by_cases h : i < n * sz
  · have hd : i / sz < n := Nat.div_lt_of_lt_mul (by rw [Nat.mul_comm]; exact h)
    have hm : i % sz < sz := Nat.mod_lt _ hs
    have hrep : (List.replicate n z)[i / sz]? = some z := by simp [hd]
    have hat := LC_at hf hrep
    have e : (LC f (List.replicate n z))[i]? = (f z)[i % sz]? := by
      rw [← hat, List.getElem?_take, if_pos hm, List.getElem?_drop]
      congr 1
      rw [Nat.mul_comm]; exact (Nat.div_add_mod i sz).symm
    rw [e]
    simp only [madeCells, Array.toList_map, List.getElem?_map, Array.toList_range]
    rw [List.getElem?_range h]
    simp only [Option.map_some, List.size_toArray, hz]
    rw [getElem!_pos (f z).toArray _ (by simpa [hz] using hm), List.getElem?_eq_getElem (by omega)]
    simp
  · rw [List.getElem?_eq_none (by simp [madeCells]; omega), List.getElem?_eq_none (by rw [LC_len hf]; simp; omega)]
theorem LC_all {p : Value → Bool} (hp : ∀ x, (f x).all p = true) : ∀ l : List α, (LC f l).all p = true
  | [] => rfl
  | x :: l => by rw [LC_cons, List.all_append, hp x, LC_all hp l]; rfl
end
end Go.Sx
namespace Go.Sx
section
variable {P : Program}

/-! ### what is asked at the callee's end -/
def savOf : Ent → Option (Nat × List AV)
  | .box _ => none
  | .row .. => none
  | .view .. => none
  | .hdr _ => none
  | .sav j l => some (j, l)
  | .fact .. => none
  | .dead => none
def killE (j : Nat) (e : Ent) : Ent := match savOf e with
  | some (j', _) => if j' = j then .dead else e
  | none => e
def kill (j : Nat) (m : Mem) : Mem := m.map fun y => (y.1, killE j y.2)
def savGo (j : Nat) (M : MemF) (K : List AV → Prop) : Mem → Prop
  | [] => False
  | (k, e) :: m => match savOf e with
    | some (j', t) => if j' = j then M k = some (.sav j t) ∧ K t else savGo j M K m
    | none => savGo j M K m
def retO (acc : List A0) (K : List A0 → Prop) : AV → Prop
  | .o a => K (acc ++ [a])
  | .t _ => False
def retU (acc : List A0) (K : List A0 → Prop) : Eff → Prop
  | .ok c u => c ∧ u.cr = [] ∧ u.wr = [] ∧ retO acc K u.r
  | _ => False
def retP (P : Program) (M : MemF) (ty : TypeId) (acc : List A0) (K : List A0 → Prop) : AV → Prop
  | .o (.p k off) => retU acc K (loadEff P M ty k off)
  | _ => False
def retGo (P : Program) (T : Nat → AV) (M : MemF) (K : List A0 → Prop) : List ResultVar → List A0 → Prop
  | [], acc => K acc
  | .tmp t :: l, acc => retO acc (fun acc => retGo P T M K l acc) (T t)
  | .cell t ty :: l, acc => retP P M ty acc (fun acc => retGo P T M K l acc) (T t)
/-- Behind the callee: the results are had, the caller's slots again. -/
def RetI (P : Program) (vars : List ResultVar) (j : Nat) (d : Option Nat) (ks : St → Prop) (st : St) : Prop :=
  retGo P st.T st.m.get (fun as => savGo j st.m.get (fun t' => ks ⟨setd t' d (packA as), kill j st.m, st.n⟩) st.m) vars []
/-- No slots are kept under this number. -/
def noSav (j : Nat) : Mem → Bool
  | [] => true
  | (_, e) :: m => (match savOf e with | some (j', _) => j' != j | none => true) && noSav j m

theorem noSav_spec {j : Nat} : ∀ {m : Mem}, noSav j m = true → ∀ k j' l, m.get k = some (.sav j' l) → j' ≠ j
  | [], _, _, _, _, h => by cases h
  | (k0, e) :: m, hn, k, j', l, h => by
    simp only [noSav, Bool.and_eq_true] at hn
    simp only [Mem.get] at h
    split at h
    · simp only [Option.some.injEq] at h
      subst h
      simpa [savOf] using hn.1
    · exact noSav_spec hn.2 k j' l h
theorem savGo_spec {j : Nat} {M : MemF} {K : List AV → Prop} : ∀ {m : Mem}, savGo j M K m → ∃ k t, M k = some (.sav j t) ∧ K t
  | [], h => h.elim
  | (k, e) :: m, h => by
    simp only [savGo] at h
    split at h
    · split at h
      · exact ⟨k, _, h⟩
      · exact savGo_spec h
    · exact savGo_spec h
theorem kill_get {j : Nat} : ∀ {m : Mem} {k : Nat}, (kill j m).get k = (m.get k).map (killE j)
  | [], _ => rfl
  | (k0, e) :: m, k => by
    simp only [kill, List.map_cons, Mem.get]
    split
    · rfl
    · exact kill_get

theorem retGo_run {w0 : Base} {ρ : Nat → Loc} {T : Nat → AV} {M : MemF} {N : Nat} {a : Act} {w : World} (h : SatS w0 ρ T M N a w) {K : List A0 → Prop} : ∀ {vars : List ResultVar} {acc : List A0}, retGo P T M K vars acc →
    ∃ as zs, vars.length = zs.length ∧ (∀ (i : Nat) (v : ResultVar) (z : Value), vars[i]? = some v → zs[i]? = some z → (getRes a.tmps v).run P w = .ok z w) ∧ DenL ρ M as zs ∧ K (acc ++ as)
  | [], acc, hr => ⟨[], [], rfl, by simp, trivial, by have h0 : K acc := hr; simpa using h0⟩
  | v :: vars, acc, hr => by
    have main : ∀ (q : A0) (z : Value), (getRes a.tmps v).run P w = .ok z w → Den0 ρ M q z → retGo P T M K vars (acc ++ [q]) →
        ∃ as zs, (v :: vars).length = zs.length ∧ (∀ (i : Nat) (v' : ResultVar) (z : Value), (v :: vars)[i]? = some v' → zs[i]? = some z → (getRes a.tmps v').run P w = .ok z w) ∧ DenL ρ M as zs ∧ K (acc ++ as) := by
      intro q z hz hd hr'
      obtain ⟨as, zs, h1, h2, h3, h4⟩ := retGo_run h hr'
      refine ⟨q :: as, z :: zs, by simp [h1], ?_, ⟨hd, h3⟩, by simpa using h4⟩
      intro i v' z' hv hz'
      cases i with
      | zero => simp at hv hz'; subst hv hz'; exact hz
      | succ i => exact h2 i v' z' (by simpa using hv) (by simpa using hz')
    cases v with
    | tmp t =>
      simp only [retGo] at hr
      have hd := h.slot t
      cases hT : T t with
      | t l => rw [hT] at hr; exact hr.elim
      | o q =>
        rw [hT] at hr hd
        exact main q _ rfl hd hr
    | cell t ty =>
      simp only [retGo] at hr
      have hd := h.slot t
      unfold retP at hr
      split at hr
      · rename_i k off hT
        rw [hT] at hd
        obtain ⟨_, hd⟩ := hd
        unfold retU at hr
        split at hr
        · rename_i c u he
          obtain ⟨hc, hcr, hwr, hr⟩ := hr
          unfold retO at hr
          split at hr
          · rename_i q hq
            -- the load, as an operation
            have hload : ({ dst := none, op := .load ty (.tmp t), type := 0, pos := "", after := #[], guard := none } : Oper).wp P a w (fun _ _ => True) (fun _ _ _ => True) ∧ ∃ z, (getRes a.tmps (.cell t ty)).run P w = .ok z w ∧ Den0 ρ M q z := by
              have hrun : ∃ z, (getRes a.tmps (.cell t ty)).run P w = .ok z w ∧ Den0 ρ M q z := by
                unfold loadEff at he
                split at he
                · rename_i e sz g hM hsz hg
                  have hs := h.mem.ent k e hM
                  split at he
                  · rename_i cs hcs
                    cases g with
                    | true =>
                      simp only [Eff.ok.injEq] at he
                      obtain ⟨rfl, rfl⟩ := he
                      simp only [val, AV.o.injEq] at hq
                      subst hq
                      obtain ⟨hf, hp⟩ := hc
                      have hrd := hs.reads hcs (by intro e0; subst e0; simp at hf; omega)
                      have hlen : ((cs.drop off).take sz).length = sz := by simp; omega
                      have hl := run_loadCells_list (P := P) w (((ρ k).a).add off) ((cs.drop off).take sz) (fun j v hj => by
                        rw [addr_add_add]
                        refine hrd (off + j) v ?_
                        rw [List.getElem?_take] at hj
                        split at hj
                        · rwa [List.getElem?_drop] at hj
                        · cases hj)
                      rw [hlen] at hl
                      refine ⟨.agg ((cs.drop off).take sz).toArray, ?_, rfl⟩
                      simp only [getRes, hd, asAddr, loadVar, Sem.run_bind, Sem.run_pure, Result.andThen_ok, run_isAgg' hg, run_sizeOf' hsz, if_true, hl]
                    | false =>
                      simp only [Eff.ok.injEq] at he
                      obtain ⟨rfl, rfl⟩ := he
                      simp only [val, AV.o.injEq] at hq
                      subst hq
                      have hrd := hs.reads hcs (by intro e0; subst e0; simp at hc)
                      have hcell := hrd off (cs.getD off undef) (by simp [List.getD, List.getElem?_eq_getElem hc])
                      refine ⟨cs.getD off undef, ?_, rfl⟩
                      simp only [getRes, hd, asAddr, loadVar, Sem.run_bind, Sem.run_pure, Result.andThen_ok, run_isAgg' hg, Bool.false_eq_true, if_false]
                      simp [hcell]
                  · unfold hdrLoad at he
                    split at he
                    · rename_i cs hce
                      simp only [Eff.ok.injEq] at he
                      obtain ⟨rfl, rfl⟩ := he
                      simp only [AV.o.injEq] at hq
                      obtain ⟨y, hcell, _, hy⟩ := h.mem.hdr k cs hM off (cs.getD off .any) (by simp [List.getD, List.getElem?_eq_getElem hc])
                      rw [hq] at hy
                      refine ⟨y, ?_, hy⟩
                      simp only [getRes, hd, asAddr, loadVar, Sem.run_bind, Sem.run_pure, Result.andThen_ok, run_isAgg' hg, Bool.false_eq_true, if_false]
                      simp [hcell]
                    · cases he
                · cases he
              refine ⟨?_, hrun⟩
              obtain ⟨z, hz, _⟩ := hrun
              unfold Oper.wp
              have he2 : a.eval (.tmp t) = .pointer (some ((ρ k).a.add off)) := hd
              have : (execOp a.eval ({ dst := none, op := .load ty (.tmp t), type := 0, pos := "", after := #[], guard := none } : Oper)).run P w = .ok (.value z) w := by
                simp only [getRes, hd, asAddr, Sem.run_bind, Sem.run_pure, Result.andThen_ok] at hz
                simp [execOp, he2, Instr.loadAt, Instr.sureAddr, hz]
              rw [this]; trivial
            obtain ⟨_, z, hz, hdz⟩ := hload
            exact main q z hz hdz hr
          · exact hr.elim
        · exact hr.elim
      · exact hr.elim

/-- The callee's arguments, and that the call is made. -/
theorem call_args {w0 : Base} {ρ : Nat → Loc} {T : Nat → AV} {M : MemF} {N : Nat} {a : Act} {w : World} {id : Nat} {o : Oper} {f : Nat} {args : List AV} (h : SatS w0 ρ T M N a w) (hc : callable P f)
    (he : opEff P T M id o.op = .call f args ∨ opEff P T M id o.op = .clo f args) :
    ∃ ys : List Value, ys.length = args.length ∧ (∀ i, Den ρ M (args.getD i (.o .any)) (ys.getD i undef)) ∧ (execOp a.eval o).run P w = .ok (.enter f ys.toArray) w := by
  have hev : ∀ l : List Operand, ∀ i, Den ρ M ((l.map (ev T)).getD i (.o .any)) ((l.map a.eval).getD i undef) := by
    intro l i
    rw [List.getD_eq_getElem?_getD, List.getD_eq_getElem?_getD, List.getElem?_map, List.getElem?_map]
    cases l[i]? with
    | none => trivial
    | some x => exact h.eval x
  rcases he with he | he
  · obtain ⟨c, hop, hcal, rfl⟩ := call_spec he
    refine ⟨c.args.toList.map a.eval, by simp, hev _, ?_⟩
    have h0 : a.eval (.func f) = .func (.func f) #[] #[] := rfl
    have hc := hc (c.args.toList.map a.eval).toArray w
    have hmap : (c.args.toList.map a.eval).toArray = c.args.map a.eval := by rw [← Array.toList_map, Array.toArray_toList]
    rw [hmap] at hc ⊢
    simp [execOp, hop, resolve, hcal, h0, Deferred.ofValue, invoke, hc]
  · obtain ⟨c, i, ks, hop, hcal, hT, rfl⟩ := clo_spec he
    have hd := h.slot i
    rw [hT] at hd
    obtain ⟨hlive, hy⟩ := hd
    refine ⟨c.args.toList.map a.eval ++ ks.map fun k => Value.pointer (some (ρ k).a), by simp, ?_, ?_⟩
    · intro i
      have hl : (c.args.toList.map (ev T)).length = (c.args.toList.map a.eval).length := by simp
      by_cases hi : i < (c.args.toList.map a.eval).length
      · rw [List.getD_eq_getElem?_getD, List.getD_eq_getElem?_getD, List.getElem?_append_left (by rw [hl]; exact hi), List.getElem?_append_left hi, ← List.getD_eq_getElem?_getD, ← List.getD_eq_getElem?_getD]
        exact hev _ i
      · rw [List.getD_eq_getElem?_getD, List.getD_eq_getElem?_getD, List.getElem?_append_right (by rw [hl]; omega), List.getElem?_append_right (by omega), hl, List.getElem?_map, List.getElem?_map]
        cases hk : ks[i - (c.args.toList.map a.eval).length]? with
        | none => trivial
        | some k => exact ⟨hlive k (List.mem_of_getElem? hk), by simp [Addr.add]⟩
    · have h0 : a.eval (.tmp i) = .func (.func f) #[] (ks.map fun k => Value.pointer (some (ρ k).a)).toArray := hy
      have hc := hc (c.args.toList.map a.eval ++ ks.map fun k => Value.pointer (some (ρ k).a)).toArray w
      have hmap : (c.args.toList.map a.eval ++ ks.map fun k => Value.pointer (some (ρ k).a)).toArray = c.args.map a.eval ++ (ks.map fun k => Value.pointer (some (ρ k).a)).toArray := by
        rw [← List.append_toArray, ← Array.toList_map, Array.toArray_toList]
      rw [hmap] at hc ⊢
      simp [execOp, hop, resolve, hcal, h0, Deferred.ofValue, invoke, hc]

/-- A call, gone through in place. -/
theorem inline_raw {st : St} {op : Op} {d : Option Nat} {ks : St → Prop} {f : Nat} {args : List AV} {fn : Func} {c : Code} {N : Nat} {vars : List ResultVar} (hf : P.funcs[f]? = some fn) (hb : fn.body = some c) (hN : fn.ntmps = N) (hv : fn.results.toList = vars) (hname : (fn.name == "runtime.NumGoroutine") = false)
    (hm : P.follows .mixedOrders = true) (he : opEff P st.T st.m.get st.n op = .call f args ∨ opEff P st.T st.m.get st.n op = .clo f args) (j : Nat) (hj : noSav j st.m = true) (n : Nat)
    (h : vcx P (RetI P vars j d ks) n [.code c] ⟨args ++ List.replicate (N - args.length) (.o (.v undef)), (st.n, .sav j st.t) :: st.m, st.n + 4⟩) : RawOp P st op d ks := by
  rintro o rfl rfl r g ρ a w K Q ⟨w0, hx, hs, hid⟩ hK
  have hcall : callable P f := callable_of hf (by rw [hb]; rfl) hname
  obtain ⟨ys, hlen, hden, hrun⟩ := call_args hs hcall he
  have hnd : ∀ c, o.op ≠ .defer c := by
    intro c hc
    rw [hc] at he
    rcases he with he | he <;> (simp only [opEff] at he; cases he)
  refine oper_in r hnd ?_
  unfold Oper.wp
  rw [hrun, Oper.upon_enter]
  -- the callee's base and start
  have hnew : (st.m.get st.n).isSome = false := by
    cases hq : (st.m.get st.n).isSome with
    | false => rfl
    | true => have := hid _ hq; omega
  let w1 : Base := ⟨w0.w, w0.own, w0.new, fun x => if x = j then a.tmps else w0.sv x, [], w0.hid, w0.dis⟩
  have hlive : ∀ k, (st.m.get k).isSome = true → (Mem.get ((st.n, .sav j st.t) :: st.m) k).isSome = true ∧ ρ k = ρ k := by
    intro k hk
    refine ⟨?_, rfl⟩
    simp only [Mem.get]
    split
    · rfl
    · exact hk
  have hkey : ∀ k e, Mem.get ((st.n, .sav j st.t) :: st.m) k = some e → (k = st.n ∧ e = .sav j st.t) ∨ st.m.get k = some e := by
    intro k e hk
    simp only [Mem.get] at hk
    split at hk
    · simp only [Option.some.injEq] at hk; exact .inl ⟨by assumption, hk.symm⟩
    · exact .inr hk
  have hmem : SatM w1 ρ (Mem.get ((st.n, .sav j st.t) :: st.m)) w := by
    refine ⟨fun k e hk => ?_, fun k cs hk => ?_, fun k j' l hk => ?_, fun k e k' e' hk hfr hk' hne => ?_, fun k rt F hk => ?_⟩
    rotate_right
    · rcases hkey k _ hk with ⟨_, h0⟩ | hk
      · cases h0
      · exact hs.mem.fct k rt F hk
    · rcases hkey k e hk with ⟨rfl, rfl⟩ | hk
      · trivial
      · exact hs.mem.ent k e hk
    · rcases hkey k _ hk with ⟨_, h0⟩ | hk
      · cases h0
      · exact hs.mem.hdr_keep (Fr.refl w fun _ => False) hlive hk (fun _ _ x => x)
    · rcases hkey k _ hk with ⟨rfl, h0⟩ | hk
      · cases h0
        have e1 : w1.sv j = a.tmps := by simp [w1]
        rw [e1]
        exact ⟨hs.size.symm, fun i => (hs.slot i).mono hlive⟩
      · have e1 : w1.sv j' = w0.sv j' := by simp [w1, noSav_spec hj k j' l hk]
        rw [e1]
        exact hs.mem.sav_keep hlive hk
    · rcases hkey k e hk with ⟨_, rfl⟩ | hk
      · simp [Ent.fresh] at hfr
      · rcases hkey k' e' hk' with ⟨_, rfl⟩ | hk'
        · cases hb2 : e.blk (ρ k) with
          | none => exact .inl rfl
          | some b => exact .inr (by simp [Ent.blk])
        · exact hs.mem.apart k e k' e' hk hfr hk' hne
  have hstart : SatN w1 ρ ⟨args ++ List.replicate (N - args.length) (.o (.v undef)), (st.n, .sav j st.t) :: st.m, st.n + 4⟩ ⟨ys.toArray ++ Array.replicate (N - ys.toArray.size) undef, []⟩ w := by
    refine ⟨w1, Ext.refl _, ⟨hs.below, hmem, fun i => ?_, ?_, rfl⟩, fun k hk => ?_⟩
    · show Den ρ _ ((args ++ List.replicate (N - args.length) (AV.o (.v undef))).getD i (.o .any)) ((ys.toArray ++ Array.replicate (N - ys.toArray.size) undef).getD i undef)
      have e0 : (ys.toArray ++ Array.replicate (N - ys.toArray.size) undef).getD i undef = (ys ++ List.replicate (N - ys.length) undef).getD i undef := by
        rw [Array.getD_eq_getD_getElem?, List.getD_eq_getElem?_getD]
        congr 1
        rw [show ys.toArray ++ Array.replicate (N - ys.toArray.size) undef = (ys ++ List.replicate (N - ys.length) undef).toArray by simp]
        simp
      rw [e0]
      by_cases hi : i < args.length
      · rw [List.getD_eq_getElem?_getD, List.getD_eq_getElem?_getD, List.getElem?_append_left hi, List.getElem?_append_left (by omega), ← List.getD_eq_getElem?_getD, ← List.getD_eq_getElem?_getD]
        exact (hden i).mono hlive
      · rw [List.getD_eq_getElem?_getD, List.getD_eq_getElem?_getD, List.getElem?_append_right (by omega), List.getElem?_append_right (by omega), List.getElem?_replicate, List.getElem?_replicate, hlen]
        split
        · exact rfl
        · trivial
    · simp only [Array.size_append, List.size_toArray, Array.size_replicate, List.length_append, List.length_replicate, hlen]
    · obtain ⟨e, he⟩ := Option.isSome_iff_exists.1 hk
      rcases hkey k e he with ⟨rfl, _⟩ | hk
      · show st.n < st.n + 4; omega
      · have := hid k (by rw [hk]; rfl)
        show k < st.n + 4; omega
  rw [vcx_eq] at h
  have h1 := vcs_sound hm n [.code c] _ trivial h
  rw [SVX_code] at h1
  have hcalls : CallsIn Fence.wide 0 P f ys.toArray w (fun e w' => match e with | .returned v => K (a.put o.dst v) w' | _ => False) := by
    refine callsIn_of_wp_marks (F := Fence.wide) (n := 0) hf hb trivial ?_ rfl
    rw [hN]
    refine wpIn_mono (show c.wpIn Fence.wide 0 P _ _ w from h1 none _ ρ _ w hstart) ?_
    rintro e a' w' ⟨ρ', st', ⟨w2, hx2, hs'⟩, hq⟩
    have fin : RetI P vars j o.dst ks st' → LeavesInM Fence.wide 0 P fn a'.tmps (fun e w' => match e with | .returned v => K (a.put o.dst v) w' | _ => False) a'.defers .returning w' := by
      intro hr
      obtain ⟨Ds, hdf, hnd', hD⟩ := hx2.df
      have hdf : w2.df = Ds.map markD := by rw [hdf]; exact List.append_nil _
      rw [hs'.1.defers, hdf]
      have hkeep : ∀ D ∈ Ds, w'.heap[D]? = some (.deferred (some [])) := fun D h1 => by
        obtain ⟨h2, h3, _, h4⟩ := hD D h1
        rw [hs'.1.below.block D h2 h3]; exact h4
      refine leave_marks Ds w' hnd' hkeep fun w'' hf' => ?_
      obtain ⟨wl, hlf, hl⟩ := hs'.1.leave hx2 hf' fun b hb => ⟨(hD b hb).2.2.1, ⟨_, (hD b hb).2.2.2, rfl⟩, fun cur ty c hc => by rw [hkeep b hb] at hc; cases hc⟩
      obtain ⟨as, zs, z1, z2, z3, z4⟩ := retGo_run hl hr
      simp only [List.nil_append] at z4
      obtain ⟨k, t', hk, hks⟩ := savGo_spec z4
      refine ⟨pack zs, results_run (by rw [hv]; exact z1) (by rw [hv]; exact z2), ?_⟩
      refine hK ρ' _ (a.put o.dst (pack zs)) w'' ?_ hks
      -- back at the caller
      have hl2 : ∀ k, (st'.m.get k).isSome = true → ((kill j st'.m).get k).isSome = true ∧ ρ' k = ρ' k := fun k hk => ⟨by rw [kill_get]; simpa using hk, rfl⟩
      have hkk : ∀ k e, (kill j st'.m).get k = some e → e = .dead ∨ (st'.m.get k = some e ∧ ∀ l, e ≠ .sav j l) := by
        intro k e hk
        rw [kill_get, Option.map_eq_some_iff] at hk
        obtain ⟨e0, h0, rfl⟩ := hk
        unfold killE
        cases e0 with
        | sav j' l =>
          simp only [savOf]
          split
          · exact .inl rfl
          · rename_i hne
            exact .inr ⟨h0, fun l' hl => by cases hl; exact hne rfl⟩
        | _ => exact .inr ⟨h0, fun l' hl => by cases hl⟩
      obtain ⟨hsz, hsl⟩ := hl.mem.sav k j t' hk
      have e1 : wl.sv j = a.tmps := by rw [hlf.sv]; simp [w1]
      rw [e1] at hsz hsl
      have hwf : Fr w0.w w'' w0.own := hlf.below
      let w5 : Base := ⟨w'', wl.own, fun b hb => wl.new b (by rw [hlf.w]; exact hb), w0.sv, w0.df, w0.hid, fun b hb => w0.dis b (hlf.own b hb)⟩
      have hx5 : Ext g w5 := by
        refine ⟨hwf.below hx.below hx.own, fun b hb => hx.own b (hlf.own b hb), hx.sv, hx.hid, ?_⟩
        obtain ⟨Ds2, d1, d2, d3⟩ := hx.df
        refine ⟨Ds2, d1, d2, fun D hD2 => ?_⟩
        obtain ⟨q1, q2, q3, q4⟩ := d3 D hD2
        exact ⟨Nat.lt_of_lt_of_le q1 hwf.size, fun h => q2 (hlf.own D h), q3, (hwf.block D q1 q2).trans q4⟩
      refine ⟨w5, hx5, ⟨Fr.refl _ _, ⟨fun k e hk => ?_, fun k cs hk => ?_, fun k j' l hk => ?_, fun k e k' e' hk hfr hk' hne => ?_, fun k rt F hk w3 h3 => ?_⟩, fun i => ?_, ?_, ?_⟩, fun k hk => ?_⟩
      · rcases hkk k e hk with rfl | ⟨hk, _⟩
        · trivial
        · exact hl.mem.ent k e hk
      · rcases hkk k _ hk with h0 | ⟨hk, _⟩
        · cases h0
        · exact hl.mem.hdr_keep (Fr.refl w'' fun _ => False) hl2 hk (fun _ _ x => x)
      · rcases hkk k _ hk with h0 | ⟨hk, hne⟩
        · cases h0
        · have hjj : j' ≠ j := fun h => hne l (by rw [h])
          have e2 : wl.sv j' = w0.sv j' := by rw [hlf.sv]; simp [w1, hjj]
          have := hl.mem.sav_keep hl2 hk
          rw [e2] at this
          exact this
      · rcases hkk k e hk with rfl | ⟨hk, _⟩
        · simp [Ent.fresh] at hfr
        · rcases hkk k' e' hk' with rfl | ⟨hk', _⟩
          · cases hb2 : e.blk (ρ' k) with
            | none => exact .inl rfl
            | some b => exact .inr (by simp [blk_dead])
          · exact hl.mem.apart k e k' e' hk hfr hk' hne
      · rcases hkk k _ hk with h0 | ⟨hk, _⟩
        · cases h0
        · refine hl.mem.fct k rt F hk w3 ?_
          have e5 : wl.w = w5.w := hlf.w
          have e6 : wl.st rt = w5.st rt := by
            funext b
            unfold Base.st
            rw [e5, hlf.hid]
          rw [e5, e6]
          exact h3
      · show Den ρ' _ ((setd t' o.dst (packA as)).getD i (.o .any)) ((a.put o.dst (pack zs)).tmps.getD i undef)
        rw [put_tmps, setd_getD, hsz]
        split
        · exact (den_pack z3).mono hl2
        · exact (hsl i).mono hl2
      · show (a.put o.dst (pack zs)).tmps.size = (setd t' o.dst (packA as)).length
        rw [setd_length, hsz]
        cases o.dst <;> simp [Act.put]
      · show (a.put o.dst (pack zs)).defers = w0.df
        rw [← hs.defers]
        cases o.dst <;> simp [Act.put]
      · rw [kill_get] at hk
        exact hs'.2 k (by simpa using hk)
    cases e with
    | normal => exact fin hq
    | ret => exact fin hq
    | _ => exact hq.elim
  exact (callsIn_wide.1 hcalls).mono fun e w' he => by cases e <;> first | exact he | exact he.elim

theorem CallVC.inline {Q : St → Prop} {n all rest k st d op f args} {fn : Func} {c : Code} {N : Nat} {vars : List ResultVar} (hf : P.funcs[f]? = some fn) (hb : fn.body = some c) (hN : fn.ntmps = N) (hv : fn.results.toList = vars) (hname : (fn.name == "runtime.NumGoroutine") = false)
    (hm : P.follows .mixedOrders = true) (he : opEff P st.T st.m.get st.n op = .call f args) (j : Nat) (hj : noSav j st.m = true)
    (h : vcx P (RetI P vars j d fun st' => vcx P Q n (.ops .plain all rest :: k) st') 1000 [.code c] ⟨args ++ List.replicate (N - args.length) (.o (.v undef)), (st.n, .sav j st.t) :: st.m, st.n + 4⟩) : CallVC P Q n .plain all rest k st d op f args :=
  .raw rfl (inline_raw hf hb hN hv hname hm (.inl he) j hj 1000 h)
theorem CloVC.inline {Q : St → Prop} {n all rest k st d op f args} {fn : Func} {c : Code} {N : Nat} {vars : List ResultVar} (hf : P.funcs[f]? = some fn) (hb : fn.body = some c) (hN : fn.ntmps = N) (hv : fn.results.toList = vars) (hname : (fn.name == "runtime.NumGoroutine") = false)
    (hm : P.follows .mixedOrders = true) (he : opEff P st.T st.m.get st.n op = .clo f args) (j : Nat) (hj : noSav j st.m = true)
    (h : vcx P (RetI P vars j d fun st' => vcx P Q n (.ops .plain all rest :: k) st') 1000 [.code c] ⟨args ++ List.replicate (N - args.length) (.o (.v undef)), (st.n, .sav j st.t) :: st.m, st.n + 4⟩) : CloVC P Q n .plain all rest k st d op f args :=
  .raw rfl (inline_raw hf hb hN hv hname hm (.inr he) j hj 1000 h)
end
end Go.Sx
namespace Go.Sx
section
variable {P : Program}
end
theorem nd1 {k : Nat} : [k].Nodup = True := by simp
theorem nd2 {k k' : Nat} : [k, k'].Nodup = (k ≠ k') := by simp
theorem one_sl {o : Option Addr} {n c : Nat} : (Value.slice o n c).oneCell' = true := rfl
/-- The equations of calls gone through in place. -/
theorem UX : type_of% (And.intro (And.intro (And.intro (And.intro @RetI.eq_1 (And.intro @retGo.eq_1 @retGo.eq_2)) (And.intro (And.intro @retGo.eq_3 @retO.eq_1) (And.intro @retO.eq_2 @retU.eq_1))) (And.intro (And.intro @retP.eq_1 (And.intro @savGo.eq_1 @savGo.eq_2)) (And.intro (And.intro @savOf.eq_1 @savOf.eq_2) (And.intro @savOf.eq_3 @savOf.eq_4)))) (And.intro (And.intro (And.intro @savOf.eq_5 (And.intro @savOf.eq_6 @killE.eq_1)) (And.intro (And.intro @kill.eq_1 @setd.eq_1) (And.intro @setd.eq_2 @nd1))) (And.intro (And.intro (And.intro @nd2 @one_sl) (And.intro @Ent.own.eq_1 @Ent.own.eq_2)) (And.intro (And.intro @Ent.own.eq_3 @Ent.fresh.eq_1) (And.intro @Ent.fresh.eq_2 @Ent.fresh.eq_3))))) :=
  (And.intro (And.intro (And.intro (And.intro @RetI.eq_1 (And.intro @retGo.eq_1 @retGo.eq_2)) (And.intro (And.intro @retGo.eq_3 @retO.eq_1) (And.intro @retO.eq_2 @retU.eq_1))) (And.intro (And.intro @retP.eq_1 (And.intro @savGo.eq_1 @savGo.eq_2)) (And.intro (And.intro @savOf.eq_1 @savOf.eq_2) (And.intro @savOf.eq_3 @savOf.eq_4)))) (And.intro (And.intro (And.intro @savOf.eq_5 (And.intro @savOf.eq_6 @killE.eq_1)) (And.intro (And.intro @kill.eq_1 @setd.eq_1) (And.intro @setd.eq_2 @nd1))) (And.intro (And.intro (And.intro @nd2 @one_sl) (And.intro @Ent.own.eq_1 @Ent.own.eq_2)) (And.intro (And.intro @Ent.own.eq_3 @Ent.fresh.eq_1) (And.intro @Ent.fresh.eq_2 @Ent.fresh.eq_3)))))
end Go.Sx
