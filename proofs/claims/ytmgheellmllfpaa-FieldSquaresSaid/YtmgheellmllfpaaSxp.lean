/-
  The machine: the equations by which a piece of code is gone through. No conditions.
-/
import Derived.Test.YtmgheellmllfpaaSxo
namespace Go.Sx
section
variable {P : Program} {Q : St → Prop}

/-- A pure operation's value is wanted. -/
inductive ExVC (P : Program) (Q : St → Prop) (n : Nat) (dr : Bool) (all rest : List Oper) (k : List Frm) (st : St) (d : Option Nat) (S : Value → Prop) : Prop where
  | intro (z : Value) (hS : S z) (h : vcx P Q n (.ops dr all rest :: k) (st.put d (val z)))
/-- A contract is wanted. -/
inductive CallVC (P : Program) (Q : St → Prop) (n : Nat) (dr : Bool) (all rest : List Oper) (k : List Frm) (st : St) (d : Option Nat) (f : Nat) (args : List AV) : Prop where
  | mk (as : List Arg) (rs : List Res) (hc : Contract P f as rs) (hm : argsMatch st.m.get args as) (hl : rs.length ≤ 4) (ha : apartIds args as) (hn : dr = true → movedE args as = [])
    (h : vcx P Q n (.ops dr all rest :: k) (st.put d ⟨packA (ressA st.n rs), ressE st.n rs, movedE args as⟩))
/-- A call of a function whose arguments are not given away. -/
theorem CallVC.intro {n dr all rest k st d f args} {as : List Arg} {rs : List Res} (hc : Contract P f as rs) (hm : argsMatch st.m.get args as) (hl : rs.length.ble 4 = true) (hn : movedE args as = [])
    (h : vcx P Q n (.ops dr all rest :: k) (st.put d ⟨packA (ressA st.n rs), ressE st.n rs, []⟩)) : CallVC P Q n dr all rest k st d f args :=
  ⟨as, rs, hc, hm, Nat.le_of_ble_eq_true hl, .inl hn, fun _ => hn, by rw [hn]; exact h⟩
/-- The region draws its order. -/
inductive DrawVC (all : List Oper) (A : Prop) : Prop where
  | intro (h : orderOK all = true) (ha : A)

def goOnD (P : Program) (Q : St → Prop) (n : Nat) (dr : Bool) (all rest : List Oper) (k : List Frm) (st : St) (d : Option Nat) : Eff → Prop
  | .fail => False
  | .ok c u => c ∧ vcx P Q n (.ops dr all rest :: k) (st.put d u)
  | .ex S => ExVC P Q n dr all rest k st d S
  | .call f args => CallVC P Q n dr all rest k st d f args
noncomputable def goOn (P : Program) (Q : St → Prop) (n : Nat) (dr : Bool) (all rest : List Oper) (k : List Frm) (st : St) (d : Option Nat) (e : Eff) : Prop := hid (@goOnD P Q n dr) all rest k st d e
theorem goOn_eq {n dr all rest k st d e} : goOn P Q n dr all rest k st d e = goOnD P Q n dr all rest k st d e := by unfold goOn; rw [hid_eq]
theorem g_fail {n dr all rest k st d} : goOn P Q n dr all rest k st d .fail = False := goOn_eq
theorem g_ok {n dr all rest k st d c u} : goOn P Q n dr all rest k st d (.ok c u) = (c ∧ vcx P Q n (.ops dr all rest :: k) (st.put d u)) := goOn_eq
theorem g_ex {n dr all rest k st d S} : goOn P Q n dr all rest k st d (.ex S) = ExVC P Q n dr all rest k st d S := goOn_eq
theorem g_call {n dr all rest k st d f args} : goOn P Q n dr all rest k st d (.call f args) = CallVC P Q n dr all rest k st d f args := goOn_eq
def guardD (P : Program) (Q : St → Prop) (n : Nat) (dr : Bool) (all rest : List Oper) (k : List Frm) (st : St) (d : Option Nat) (op : Op) (s : Nat) (want : Bool) : AV → Prop
  | .o (.v (.bool true)) => match want with
    | true => goOn P Q n dr all rest k (st.see s true) d (opEff P (st.see s true).T (st.see s true).m.get (st.see s true).n op)
    | false => vcx P Q n (.ops dr all rest :: k) ((st.see s true).put d ⟨.o (.v undef), [], []⟩)
  | .o (.v (.bool false)) => match want with
    | false => goOn P Q n dr all rest k (st.see s false) d (opEff P (st.see s false).T (st.see s false).m.get (st.see s false).n op)
    | true => vcx P Q n (.ops dr all rest :: k) ((st.see s false).put d ⟨.o (.v undef), [], []⟩)
  | _ => False
noncomputable def guardGo (P : Program) (Q : St → Prop) (n : Nat) (dr : Bool) (all rest : List Oper) (k : List Frm) (st : St) (d : Option Nat) (op : Op) (s : Nat) (want : Bool) (x : AV) : Prop := hid (@guardD P Q n dr) all rest k st d op s want x
theorem guardGo_eq {n dr all rest k st d op s want x} : guardGo P Q n dr all rest k st d op s want x = guardD P Q n dr all rest k st d op s want x := by unfold guardGo; rw [hid_eq]
theorem guard_split {n dr all rest k st d op s want} {b : Bool} (ht : b = true → guardGo P Q n dr all rest k st d op s want (.o (.v (.bool true)))) (hf : b = false → guardGo P Q n dr all rest k st d op s want (.o (.v (.bool false)))) :
    guardGo P Q n dr all rest k st d op s want (.o (.v (.bool b))) := by
  cases b
  · exact hf rfl
  · exact ht rfl
def condD (P : Program) (Q : St → Prop) (n : Nat) (k : List Frm) (st : St) (a b : Code) : AV → Prop
  | .o (.v (.bool true)) => vcx P Q n (.code a :: k) st
  | .o (.v (.bool false)) => vcx P Q n (.code b :: k) st
  | _ => False
noncomputable def condGo (P : Program) (Q : St → Prop) (n : Nat) (k : List Frm) (st : St) (a b : Code) (x : AV) : Prop := hid (@condD P Q n) k st a b x
theorem condGo_eq {n k st a b x} : condGo P Q n k st a b x = condD P Q n k st a b x := by unfold condGo; rw [hid_eq]
theorem cond_t {n k st a b} : condGo P Q n k st a b (.o (.v (.bool true))) = vcx P Q n (.code a :: k) st := condGo_eq
theorem cond_f {n k st a b} : condGo P Q n k st a b (.o (.v (.bool false))) = vcx P Q n (.code b :: k) st := condGo_eq
theorem cond_split {n k st a b} {t : Bool} (ht : t = true → vcx P Q n (.code a :: k) st) (hf : t = false → vcx P Q n (.code b :: k) st) : condGo P Q n k st a b (.o (.v (.bool t))) := by
  cases t
  · rw [cond_f]; exact hf rfl
  · rw [cond_t]; exact ht rfl

theorem opVC_go {n : Nat} {dr : Bool} {all rest : List Oper} {k : List Frm} {st : St} {d : Option Nat} {op : Op} :
    opVC P dr st op (fun u => vcs P Q n (.ops dr all rest :: k) (st.put d u)) = goOn P Q n dr all rest k st d (opEff P st.T st.m.get st.n op) := by
  rw [goOn_eq]
  unfold opVC
  cases opEff P st.T st.m.get st.n op with
  | fail => rfl
  | ok c u => simp only [goOnD, vcx_eq]
  | ex S =>
    refine propext ⟨?_, ?_⟩
    · rintro ⟨z, hS, h⟩; exact ⟨z, hS, by rw [vcx_eq]; exact h⟩
    · rintro ⟨z, hS, h⟩; exact ⟨z, hS, vcx_eq.mp h⟩
  | call f args =>
    refine propext ⟨?_, ?_⟩
    · rintro ⟨as, rs, h1, h2, h3, h4, h5, h⟩; exact ⟨as, rs, h1, h2, h3, h4, h5, by rw [vcx_eq]; exact h⟩
    · rintro ⟨as, rs, h1, h2, h3, h4, h5, h⟩; exact ⟨as, rs, h1, h2, h3, h4, h5, vcx_eq.mp h⟩

theorem guard_tt {n dr all rest k st d op s} : guardGo P Q n dr all rest k st d op s true (.o (.v (.bool true))) = goOn P Q n dr all rest k (st.see s true) d (opEff P (st.see s true).T (st.see s true).m.get (st.see s true).n op) := guardGo_eq
theorem guard_ff {n dr all rest k st d op s} : guardGo P Q n dr all rest k st d op s false (.o (.v (.bool false))) = goOn P Q n dr all rest k (st.see s false) d (opEff P (st.see s false).T (st.see s false).m.get (st.see s false).n op) := guardGo_eq
theorem guard_tf {n dr all rest k st d op s} : guardGo P Q n dr all rest k st d op s true (.o (.v (.bool false))) = vcx P Q n (.ops dr all rest :: k) ((st.see s false).put d ⟨.o (.v undef), [], []⟩) := guardGo_eq
theorem guard_ft {n dr all rest k st d op s} : guardGo P Q n dr all rest k st d op s false (.o (.v (.bool true))) = vcx P Q n (.ops dr all rest :: k) ((st.see s true).put d ⟨.o (.v undef), [], []⟩) := guardGo_eq
theorem v_nil {n st} : vcx P Q (n + 1) [] st = Q st := vcx_eq
theorem v_stop {n K k st} : vcx P Q (n + 1) (.stop K :: k) st = K st := vcx_eq
theorem v_block {n j k st} : vcx P Q (n + 1) (.block j :: k) st = vcx P Q n k st := by rw [vcx_eq, vcx_eq]; rfl
theorem v_end {n dr all k st} : vcx P Q (n + 1) (.ops dr all [] :: k) st = vcx P Q n k st := by rw [vcx_eq, vcx_eq]; rfl
theorem v_op {n dr all d op ty pos after rest k st} : vcx P Q (n + 1) (.ops dr all (⟨d, op, ty, pos, after, none⟩ :: rest) :: k) st = goOn P Q n dr all rest k st d (opEff P st.T st.m.get st.n op) := by
  rw [← opVC_go, vcx_eq]; rfl
/-- The slot of a region's operation. -/
theorem gs_0 {o : Oper} {l : List Oper} : gslot (o :: l) 0 = o.dst := rfl
theorem gs_s {o : Oper} {l : List Oper} {j : Nat} : gslot (o :: l) (j + 1) = gslot l j := rfl
def atSlot (F : Nat → Prop) : Option Nat → Prop
  | none => False
  | some s => F s
theorem at_some {F : Nat → Prop} {s : Nat} : atSlot F (some s) = F s := rfl
noncomputable def guardAt (P : Program) (Q : St → Prop) (n : Nat) (dr : Bool) (all rest : List Oper) (k : List Frm) (st : St) (d : Option Nat) (op : Op) (want : Bool) (s : Option Nat) : Prop :=
  atSlot (fun s => guardGo P Q n dr all rest k st d op s want (st.T s)) s
theorem ga_some {n dr all rest k st d op want} {s : Nat} : guardAt P Q n dr all rest k st d op want (some s) = guardGo P Q n dr all rest k st d op s want (st.T s) := rfl
theorem v_guard {n dr all d op ty pos after j want rest k st} : vcx P Q (n + 1) (.ops dr all (⟨d, op, ty, pos, after, some (j, want)⟩ :: rest) :: k) st = guardAt P Q n dr all rest k st d op want (gslot all j) := by
  rw [vcx_eq]
  simp only [vcs]
  cases hg : gslot all j with
  | none => rfl
  | some s =>
    rw [ga_some, guardGo_eq]
    simp only []
    generalize st.T s = x
    unfold guardD
    cases x with
    | t l => rfl
    | o a =>
      cases a with
      | v y =>
        cases y with
        | bool b => cases b <;> cases want <;> simp [opVC_go, vcx_eq]
        | _ => rfl
      | _ => rfl
theorem v_skip {n k st} : vcx P Q (n + 1) (.code .skip :: k) st = vcx P Q n k st := by rw [vcx_eq, vcx_eq]; rfl
theorem v_region {n id} {ops : List Oper} {k st} : vcx P Q (n + 1) (.code (.region id ops.toArray false) :: k) st = vcx P Q n (.ops false ops ops :: k) st := by
  rw [vcx_eq, vcx_eq]; simp only [vcs]; simp
theorem v_regionD {n id} {ops : List Oper} {k st} : vcx P Q (n + 1) (.code (.region id ops.toArray true) :: k) st = DrawVC ops (vcx P Q n (.ops true ops ops :: k) st) := by
  rw [vcx_eq, vcx_eq]; simp only [vcs]
  refine propext ⟨?_, ?_⟩
  · rintro ⟨h1, h2⟩; exact ⟨by simpa using h1, h2⟩
  · rintro ⟨h1, h2⟩; exact ⟨by simpa using h1, h2⟩
theorem v_seq {n a b k st} : vcx P Q (n + 1) (.code (.seq a b) :: k) st = vcx P Q n (.code a :: .code b :: k) st := by rw [vcx_eq, vcx_eq]; rfl
theorem v_cond {n c a b k st} : vcx P Q (n + 1) (.code (.cond c a b) :: k) st = condGo P Q n k st a b (ev st.T c) := by
  rw [vcx_eq, condGo_eq]
  simp only [vcs]
  generalize ev st.T c = x
  unfold condD
  cases x with
  | t l => rfl
  | o a =>
    cases a with
    | v y =>
      cases y with
      | bool b => cases b <;> simp [vcx_eq]
      | _ => rfl
    | _ => rfl
theorem v_blk {n id c k st} : vcx P Q (n + 1) (.code (.block id c) :: k) st = vcx P Q n (.code c :: .block id :: k) st := by rw [vcx_eq, vcx_eq]; rfl
theorem v_loop {n c k st} : vcx P Q (n + 1) (.code (.loop c) :: k) st = LoopX P Q c k st := by rw [vcx_eq, LoopX_eq]; rfl
theorem x_code {n id c k st} : vcx P Q (n + 1) (.code (.exit id) :: .code c :: k) st = vcx P Q (n + 1) (.code (.exit id) :: k) st := by rw [vcx_eq, vcx_eq]; rfl
theorem x_ops {n id dr a l k st} : vcx P Q (n + 1) (.code (.exit id) :: .ops dr a l :: k) st = vcx P Q (n + 1) (.code (.exit id) :: k) st := by rw [vcx_eq, vcx_eq]; rfl
theorem x_stop {n id K k st} : vcx P Q (n + 1) (.code (.exit id) :: .stop K :: k) st = vcx P Q (n + 1) (.code (.exit id) :: k) st := by rw [vcx_eq, vcx_eq]; rfl
theorem x_here {n id k st} : vcx P Q (n + 1) (.code (.exit id) :: .block id :: k) st = vcx P Q n k st := by
  rw [vcx_eq, vcx_eq]; simp only [vcs, pop, if_true]
theorem x_out {n id j k st} (h : (id == j) = false) : vcx P Q (n + 1) (.code (.exit id) :: .block j :: k) st = vcx P Q (n + 1) (.code (.exit id) :: k) st := by
  have h : id ≠ j := by simpa using h
  rw [vcx_eq, vcx_eq]; simp only [vcs, pop, h, if_false]
theorem v_ret {n k st} : vcx P Q (n + 1) (.code .ret :: k) st = Q st := vcx_eq

theorem d_true {all : List Oper} : DrawVC all True = (orderOK all = true) := propext ⟨fun h => h.1, fun h => ⟨h, trivial⟩⟩
/-! What is not looked into. -/
@[congr] theorem vcx_congr {n k} {st st' : St} (h : st = st') : vcx P Q n k st = vcx P Q n k st' := by rw [h]
@[congr] theorem goOn_congr {n dr all rest k d} {st st' : St} {e e' : Eff} (h : st = st') (h2 : e = e') : goOn P Q n dr all rest k st d e = goOn P Q n dr all rest k st' d e' := by rw [h, h2]
@[congr] theorem condGo_congr {n k a b} {st st' : St} {x x' : AV} (h : st = st') (h2 : x = x') : condGo P Q n k st a b x = condGo P Q n k st' a b x' := by rw [h, h2]
@[congr] theorem guardGo_congr {n dr all rest k d op s want} {st st' : St} {x x' : AV} (h : st = st') (h2 : x = x') : guardGo P Q n dr all rest k st d op s want x = guardGo P Q n dr all rest k st' d op s want x' := by rw [h, h2]
@[congr] theorem guardAt_congr {n dr all rest k d op want} {st st' : St} {x x' : Option Nat} (h : st = st') (h2 : x = x') : guardAt P Q n dr all rest k st d op want x = guardAt P Q n dr all rest k st' d op want x' := by rw [h, h2]
@[congr] theorem CallVC_congr {n dr all rest k d f} {st st' : St} {args args' : List AV} (h : st = st') (h2 : args = args') : CallVC P Q n dr all rest k st d f args = CallVC P Q n dr all rest k st' d f args' := by rw [h, h2]
@[congr] theorem ExVC_congr {n dr all rest k d} {S S' : Value → Prop} {st st' : St} (h : st = st') (h2 : S = S') : ExVC P Q n dr all rest k st d S = ExVC P Q n dr all rest k st' d S' := by rw [h, h2]
@[congr] theorem LoopX_congr {c k} {st st' : St} (h : st = st') : LoopX P Q c k st = LoopX P Q c k st' := by rw [h]
@[congr] theorem RoundsVC_congr {c k n} {st st' : St} (h : st = st') : RoundsVC P Q c k n st = RoundsVC P Q c k n st' := by rw [h]
@[congr] theorem gslot_congr {all : List Oper} {j : Nat} : gslot all j = gslot all j := rfl
@[congr] theorem DrawVC_congr {all : List Oper} {A A' : Prop} (h : A = A') : DrawVC all A = DrawVC all A' := by rw [h]

theorem T_at {t : List AV} {m : Mem} {n i : Nat} : St.T ⟨t, m, n⟩ i = t.getD i (.o .any) := rfl
theorem ev_tmp {T : Nat → AV} {i : Nat} : ev T (.tmp i) = T i := rfl
theorem ev_const {T : Nat → AV} {x : Value} : ev T (.const x) = .o (.v x) := rfl
theorem put_some {t : List AV} {m : Mem} {n i : Nat} {u : Upd} : St.put ⟨t, m, n⟩ (some i) u = ⟨t.set i u.r, u.cr ++ updm u.wr m, n + 4⟩ := rfl
theorem put_none {t : List AV} {m : Mem} {n : Nat} {u : Upd} : St.put ⟨t, m, n⟩ none u = ⟨t, u.cr ++ updm u.wr m, n + 4⟩ := rfl
theorem see_at {t : List AV} {m : Mem} {n s : Nat} {b : Bool} : St.see ⟨t, m, n⟩ s b = ⟨t.set s (.o (.v (.bool b))), m, n⟩ := rfl
theorem updm_nil {m : Mem} : updm [] m = m := rfl
theorem updm_one {k : Nat} {e : Ent} {m : Mem} : updm [(k, e)] m = m.map fun y => (y.1, if y.1 = k then e else y.2) := by
  simp only [updm]
  apply List.map_congr_left
  intro y _
  simp only [Mem.get]
  by_cases h : y.1 = k
  · simp [h]
  · simp [h]

end
end Go.Sx
