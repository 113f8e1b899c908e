/-
  The machine: the equations by which a piece of code is gone through. No conditions.
-/
import Derived.Test.YtmgheellmllfpaaSxo
namespace Go.Sx
section
variable {P : Program} {Q : St → Prop}

/-- A pure operation's value is wanted. -/
def ExVC (P : Program) (Q : St → Prop) (n : Nat) (dr : Bool) (all rest : List Oper) (k : List Frm) (st : St) (d : Option Nat) (S : Value → Prop) : Prop :=
  ∃ z, S z ∧ vcs P Q n (.ops dr all rest :: k) (st.put d (val z))
theorem ExVC.intro {n dr all rest k st d} {S : Value → Prop} (z : Value) (hS : S z) (h : vcs P Q n (.ops dr all rest :: k) (st.put d (val z))) : ExVC P Q n dr all rest k st d S := ⟨z, hS, h⟩
/-- A contract is wanted. -/
def CallVC (P : Program) (Q : St → Prop) (n : Nat) (dr : Bool) (all rest : List Oper) (k : List Frm) (st : St) (d : Option Nat) (f : Nat) (args : List AV) : Prop :=
  ∃ as rs, Contract P f as rs ∧ argsMatch st.m.get args as ∧ rs.length ≤ 4 ∧ apartIds args as ∧ (dr = true → movedE args as = []) ∧
    vcs P Q n (.ops dr all rest :: k) (st.put d ⟨packA (ressA st.n rs), ressE st.n rs, movedE args as⟩)
/-- A call of a function whose arguments are not given away. -/
theorem CallVC.intro {n dr all rest k st d f args} {as : List Arg} {rs : List Res} (hc : Contract P f as rs) (hm : argsMatch st.m.get args as) (hl : rs.length.ble 4 = true) (hn : movedE args as = [])
    (h : vcs P Q n (.ops dr all rest :: k) (st.put d ⟨packA (ressA st.n rs), ressE st.n rs, []⟩)) : CallVC P Q n dr all rest k st d f args :=
  ⟨as, rs, hc, hm, Nat.le_of_ble_eq_true hl, .inl hn, fun _ => hn, by rw [hn]; exact h⟩

def goOn (P : Program) (Q : St → Prop) (n : Nat) (dr : Bool) (all rest : List Oper) (k : List Frm) (st : St) (d : Option Nat) : Eff → Prop
  | .fail => False
  | .ok c u => c ∧ vcs P Q n (.ops dr all rest :: k) (st.put d u)
  | .ex S => ExVC P Q n dr all rest k st d S
  | .call f args => CallVC P Q n dr all rest k st d f args
def guardGo (P : Program) (Q : St → Prop) (n : Nat) (dr : Bool) (all rest : List Oper) (k : List Frm) (st : St) (d : Option Nat) (op : Op) (s : Nat) (want : Bool) : AV → Prop
  | .o (.v (.bool true)) => match want with
    | true => goOn P Q n dr all rest k (st.see s true) d (opEff P (st.see s true).T (st.see s true).m.get (st.see s true).n op)
    | false => vcs P Q n (.ops dr all rest :: k) ((st.see s true).put d ⟨.o (.v undef), [], []⟩)
  | .o (.v (.bool false)) => match want with
    | false => goOn P Q n dr all rest k (st.see s false) d (opEff P (st.see s false).T (st.see s false).m.get (st.see s false).n op)
    | true => vcs P Q n (.ops dr all rest :: k) ((st.see s false).put d ⟨.o (.v undef), [], []⟩)
  | _ => False
theorem guard_split {n dr all rest k st d op s want} {b : Bool} (ht : b = true → guardGo P Q n dr all rest k st d op s want (.o (.v (.bool true)))) (hf : b = false → guardGo P Q n dr all rest k st d op s want (.o (.v (.bool false)))) :
    guardGo P Q n dr all rest k st d op s want (.o (.v (.bool b))) := by
  cases b
  · exact hf rfl
  · exact ht rfl
def condGo (P : Program) (Q : St → Prop) (n : Nat) (k : List Frm) (st : St) (a b : Code) : AV → Prop
  | .o (.v (.bool true)) => vcs P Q n (.code a :: k) st
  | .o (.v (.bool false)) => vcs P Q n (.code b :: k) st
  | _ => False
theorem cond_split {n k st a b} {t : Bool} (ht : t = true → vcs P Q n (.code a :: k) st) (hf : t = false → vcs P Q n (.code b :: k) st) : condGo P Q n k st a b (.o (.v (.bool t))) := by
  cases t
  · exact hf rfl
  · exact ht rfl

theorem opVC_go {n : Nat} {dr : Bool} {all rest : List Oper} {k : List Frm} {st : St} {d : Option Nat} {op : Op} :
    opVC P dr st op (fun u => vcs P Q n (.ops dr all rest :: k) (st.put d u)) = goOn P Q n dr all rest k st d (opEff P st.T st.m.get st.n op) := by
  unfold opVC
  cases opEff P st.T st.m.get st.n op <;> rfl

theorem cond_t {n k st a b} : condGo P Q n k st a b (.o (.v (.bool true))) = vcs P Q n (.code a :: k) st := rfl
theorem cond_f {n k st a b} : condGo P Q n k st a b (.o (.v (.bool false))) = vcs P Q n (.code b :: k) st := rfl
theorem guard_tt {n dr all rest k st d op s} : guardGo P Q n dr all rest k st d op s true (.o (.v (.bool true))) = goOn P Q n dr all rest k (st.see s true) d (opEff P (st.see s true).T (st.see s true).m.get (st.see s true).n op) := rfl
theorem guard_ff {n dr all rest k st d op s} : guardGo P Q n dr all rest k st d op s false (.o (.v (.bool false))) = goOn P Q n dr all rest k (st.see s false) d (opEff P (st.see s false).T (st.see s false).m.get (st.see s false).n op) := rfl
theorem guard_tf {n dr all rest k st d op s} : guardGo P Q n dr all rest k st d op s true (.o (.v (.bool false))) = vcs P Q n (.ops dr all rest :: k) ((st.see s false).put d ⟨.o (.v undef), [], []⟩) := rfl
theorem guard_ft {n dr all rest k st d op s} : guardGo P Q n dr all rest k st d op s false (.o (.v (.bool true))) = vcs P Q n (.ops dr all rest :: k) ((st.see s true).put d ⟨.o (.v undef), [], []⟩) := rfl
theorem v_nil {n st} : vcs P Q (n + 1) [] st = Q st := rfl
theorem v_stop {n K k st} : vcs P Q (n + 1) (.stop K :: k) st = K st := rfl
theorem v_block {n j k st} : vcs P Q (n + 1) (.block j :: k) st = vcs P Q n k st := rfl
theorem v_end {n dr all k st} : vcs P Q (n + 1) (.ops dr all [] :: k) st = vcs P Q n k st := rfl
theorem v_op {n dr all d op ty pos after rest k st} : vcs P Q (n + 1) (.ops dr all (⟨d, op, ty, pos, after, none⟩ :: rest) :: k) st = goOn P Q n dr all rest k st d (opEff P st.T st.m.get st.n op) := by
  rw [← opVC_go]; rfl
theorem v_guard {n dr all d op ty pos after j want rest k st} : vcs P Q (n + 1) (.ops dr all (⟨d, op, ty, pos, after, some (j, want)⟩ :: rest) :: k) st =
    (match gslot all j with | none => False | some s => guardGo P Q n dr all rest k st d op s want (st.T s)) := by
  simp only [vcs]
  cases hg : gslot all j with
  | none => rfl
  | some s =>
    simp only []
    generalize st.T s = x
    unfold guardGo
    cases x with
    | t l => rfl
    | o a =>
      cases a with
      | v y =>
        cases y with
        | bool b => cases b <;> cases want <;> simp [opVC_go]
        | _ => rfl
      | _ => rfl
theorem v_skip {n k st} : vcs P Q (n + 1) (.code .skip :: k) st = vcs P Q n k st := rfl
theorem v_region {n id ops k st} : vcs P Q (n + 1) (.code (.region id ops false) :: k) st = vcs P Q n (.ops false ops.toList ops.toList :: k) st := by
  simp only [vcs]; simp
theorem v_regionD {n id ops k st} : vcs P Q (n + 1) (.code (.region id ops true) :: k) st = (orderOK ops.toList = true ∧ vcs P Q n (.ops true ops.toList ops.toList :: k) st) := by
  simp only [vcs]; simp
theorem v_seq {n a b k st} : vcs P Q (n + 1) (.code (.seq a b) :: k) st = vcs P Q n (.code a :: .code b :: k) st := rfl
theorem v_cond {n c a b k st} : vcs P Q (n + 1) (.code (.cond c a b) :: k) st = condGo P Q n k st a b (ev st.T c) := by
  simp only [vcs]
  generalize ev st.T c = x
  unfold condGo
  cases x with
  | t l => rfl
  | o a =>
    cases a with
    | v y =>
      cases y with
      | bool b => cases b <;> simp
      | _ => rfl
    | _ => rfl
theorem v_blk {n id c k st} : vcs P Q (n + 1) (.code (.block id c) :: k) st = vcs P Q n (.code c :: .block id :: k) st := rfl
theorem v_loop {n c k st} : vcs P Q (n + 1) (.code (.loop c) :: k) st = LoopVC P Q c k st := rfl
theorem v_exit {n id k st} : vcs P Q (n + 1) (.code (.exit id) :: k) st = (match pop k id with | some k' => vcs P Q n k' st | none => False) := rfl
theorem v_ret {n k st} : vcs P Q (n + 1) (.code .ret :: k) st = Q st := rfl

theorem T_at {t : List AV} {m : Mem} {n i : Nat} : St.T ⟨t, m, n⟩ i = t.getD i (.o .any) := rfl
theorem ev_tmp {T : Nat → AV} {i : Nat} : ev T (.tmp i) = T i := rfl
theorem ev_const {T : Nat → AV} {x : Value} : ev T (.const x) = .o (.v x) := rfl
theorem put_some {t : List AV} {m : Mem} {n i : Nat} {u : Upd} : St.put ⟨t, m, n⟩ (some i) u = ⟨t.set i u.r, u.cr ++ updm u.wr m, n + 4⟩ := rfl
theorem put_none {t : List AV} {m : Mem} {n : Nat} {u : Upd} : St.put ⟨t, m, n⟩ none u = ⟨t, u.cr ++ updm u.wr m, n + 4⟩ := rfl
theorem see_at {t : List AV} {m : Mem} {n s : Nat} {b : Bool} : St.see ⟨t, m, n⟩ s b = ⟨t.set s (.o (.v (.bool b))), m, n⟩ := rfl
theorem updm_nil {m : Mem} : updm [] m = m := rfl
theorem updm_one {k : Nat} {e : Ent} {m : Mem} : updm [(k, e)] m = m.map fun y => (y.1, if y.1 = k then e else y.2) := by
  simp only [updm]
  apply List.map_congr_left
  intro y _
  simp only [Mem.get]
  by_cases h : y.1 = k
  · simp [h]
  · simp [h]

end
end Go.Sx
