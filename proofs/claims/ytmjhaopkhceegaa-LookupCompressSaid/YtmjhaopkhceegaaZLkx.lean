/-
  LookupChecks, LookupCompress, LookupOrders. No conditions.
-/
import Derived.Test.YtmjhaopkhceegaaZLkv
import Derived.Test.YtmjhaopkhceegaaZLkr
namespace Go.Sx
open Go.Proofs Go.Num
-- SY
-- TY: TYX, UX, guard_un
set_option maxRecDepth 100000
set_option linter.unusedSimpArgs false
set_option pp.deepTerms true
set_option pp.maxSteps 100000
theorem X_beq {P : Program} {T : Nat → AV} {x y : Operand} {ty ty' : TypeId} {a b : Bool} (hty : P.underlying ty = some .bool) (hx : ev T x = .o (.v (.bool a))) (hy : ev T y = .o (.v (.bool b))) :
    pureOp P T (.binOp .eql ty x y ty') (.bool (a == b)) := by
  intro o f w ho hf _
  have e1 := hf x (by simp [Op.operands]) _ hx
  have e2 := hf y (by simp [Op.operands]) _ hy
  have h3 := run_equal_bool (P := P) w ty a b hty
  simp [execOp, ho, e1, e2, resolve, eqGuard, binOp, h3]
section
variable {m : Nat} [NeZero m]
def cf (θ : Fin m) : Fin m → List Nat → Fin m
  | o, [] => o
  | o, v :: l => cf θ (o * θ + κ m v) l
theorem cf_app (θ : Fin m) : ∀ (a b : List Nat) (o : Fin m), cf θ o (a ++ b) = cf θ (cf θ o a) b
  | [], _, _ => rfl
  | _ :: a, b, o => cf_app θ a b _
theorem cf_eq (P : PR m) (θ : Fin m) : ∀ (l : List Nat) (o p : Fin m), cf θ o l = cf θ p l ↔ (o = p ∨ (θ = 0 ∧ l ≠ []))
  | [], o, p => by simp [cf]
  | v :: l, o, p => by
    unfold cf
    rw [cf_eq P θ l]
    constructor
    · rintro (h | ⟨h, _⟩)
      · have h2 : (o - p) * θ = 0 := by grind
        rcases f_nzd P h2 with h3 | h3
        · left; grind
        · right; exact ⟨h3, by simp⟩
      · right; exact ⟨h, by simp⟩
    · rintro (h | ⟨h, _⟩)
      · left; rw [h]
      · left; rw [h]; grind
end
theorem κ_cpr (s : Int) (θ : Nat) (l : List Nat) : κ (md s) (cpr s θ l) = cf (κ (md s) θ) 0 l := by
  have key : ∀ (l : List Nat) (o : Nat), κ (md s) (l.foldl (fun o v => (o * θ % md s + v) % md s) o) = cf (κ (md s) θ) (κ (md s) o) l := by
    intro l
    induction l with
    | nil => intro o; rfl
    | cons v l ih =>
      intro o
      show κ (md s) (l.foldl _ ((o * θ % md s + v) % md s)) = cf _ (κ (md s) o * κ (md s) θ + κ (md s) v) l
      rw [ih, κ_mod, κ_add, κ_mod, κ_mul]
  have := key l 0
  rwa [κ_zero] at this
theorem cpr_lt (s : Int) (θ : Nat) {l : List Nat} (h : l ≠ []) : cpr s θ l < md s := by
  rcases List.eq_nil_or_concat l with rfl | ⟨l', v, rfl⟩
  · exact absurd rfl h
  · rw [List.concat_eq_append, cpr_snoc]; exact md_mod s _
theorem cpr_set {s : Int} {θ : Nat} {l : List Nat} {i v : Nat} (P : PR (md s)) (hi : i < l.length) : cpr s θ (l.set i v) = cpr s θ l ↔ (v % md s = l.getD i 0 % md s ∨ (θ % md s = 0 ∧ i + 1 < l.length)) := by
  have hne : l ≠ [] := by rintro rfl; simp at hi
  have hne2 : l.set i v ≠ [] := by
    intro h; have := congrArg List.length h; simp at this; exact hne (List.length_eq_zero_iff.1 (by simpa using this))
  have e1 : l = l.take i ++ l.getD i 0 :: l.drop (i + 1) := by rw [← drop_at hi, List.take_append_drop]
  have e2 : l.set i v = l.take i ++ v :: l.drop (i + 1) := by
    rw [List.set_eq_take_append_cons_drop, if_pos hi]
  have h1 : cpr s θ (l.set i v) = cpr s θ l ↔ κ (md s) (cpr s θ (l.set i v)) = κ (md s) (cpr s θ l) := by
    rw [κ_inj, Nat.mod_eq_of_lt (cpr_lt s θ hne), Nat.mod_eq_of_lt (cpr_lt s θ hne2)]
  rw [h1, κ_cpr, κ_cpr, e2]
  conv => lhs; rhs; rw [e1]
  rw [cf_app, cf_app]
  show cf _ (_ + κ (md s) v) _ = cf _ (_ + κ (md s) (l.getD i 0)) _ ↔ _
  rw [cf_eq P, ← κ_inj, ← κ_eq0]
  have h3 : (cf (κ (md s) θ) 0 (List.take i l) * κ (md s) θ + κ (md s) v = cf (κ (md s) θ) 0 (List.take i l) * κ (md s) θ + κ (md s) (l.getD i 0)) ↔ κ (md s) v = κ (md s) (l.getD i 0) := by
    constructor
    · intro h; grind
    · intro h; rw [h]
  have h4 : l.drop (i + 1) ≠ [] ↔ i + 1 < l.length := by
    rw [Ne, List.drop_eq_nil_iff]; omega
  rw [h3, h4]
theorem c_LookupCompress (s : Int) (θ : Nat) (l : List Nat) (at0 : Int) (v : Nat) (hθ : θ < W256) (hl : ∀ x ∈ l, x < W256) (hv : v < W256) (hb : l.length * 32 ≤ 140737488351232) (hwl : -9223372036854775808 ≤ at0) (hwh : at0 ≤ 9223372036854775807) :
    Contract Try.prog 5 [.val (.int .i64 s), .val (EN θ), .sl l.length 4 (LC eC l), .val (.int .i64 at0), .val (EN v)] [.val (.bool true)] := by
  cases d0 : decide (s < 0) with
  | true =>
    refine contract_of (N := _) (vars := _) (c := bodyOf Try.f5) Try.func5 (body_eq rfl) rfl rfl (by rfl) mixed _ _ trivial 1000 ?_
    simp only [bodyOf, Try.f5, Option.getD_some, argA, argE, List.length_cons, List.length_nil, Nat.reduceAdd, Nat.reduceSub, List.replicate, List.cons_append, List.nil_append]
    simp only [↓PX, SX, SYX, EY, simprocAttr, TYX, UX, guard_un]
    refine CallVC.intro (c_alive17) trivial rfl rfl ?_
    simp only [↓PX, SX, SYX, EY, simprocAttr, TYX, UX, guard_un, d0]
  | false =>
  cases d1 : decide (3 < s) with
  | true =>
    refine contract_of (N := _) (vars := _) (c := bodyOf Try.f5) Try.func5 (body_eq rfl) rfl rfl (by rfl) mixed _ _ trivial 1000 ?_
    simp only [bodyOf, Try.f5, Option.getD_some, argA, argE, List.length_cons, List.length_nil, Nat.reduceAdd, Nat.reduceSub, List.replicate, List.cons_append, List.nil_append]
    simp only [↓PX, SX, SYX, EY, simprocAttr, TYX, UX, guard_un]
    refine CallVC.intro (c_alive17) trivial rfl rfl ?_
    simp only [↓PX, SX, SYX, EY, simprocAttr, TYX, UX, guard_un, d0, d1]
  | false =>
  cases d2 : decide ((100 : Int) < (l.length : Int)) with
  | true =>
    refine contract_of (N := _) (vars := _) (c := bodyOf Try.f5) Try.func5 (body_eq rfl) rfl rfl (by rfl) mixed _ _ trivial 1000 ?_
    simp only [bodyOf, Try.f5, Option.getD_some, argA, argE, List.length_cons, List.length_nil, Nat.reduceAdd, Nat.reduceSub, List.replicate, List.cons_append, List.nil_append]
    simp only [↓PX, SX, SYX, EY, simprocAttr, TYX, UX, guard_un]
    refine CallVC.intro (c_alive17) trivial rfl rfl ?_
    simp only [↓PX, SX, SYX, EY, simprocAttr, TYX, UX, guard_un, d0, d1, d2]
  | false =>
  cases d3 : decide (at0 < 0) with
  | true =>
    refine contract_of (N := _) (vars := _) (c := bodyOf Try.f5) Try.func5 (body_eq rfl) rfl rfl (by rfl) mixed _ _ trivial 1000 ?_
    simp only [bodyOf, Try.f5, Option.getD_some, argA, argE, List.length_cons, List.length_nil, Nat.reduceAdd, Nat.reduceSub, List.replicate, List.cons_append, List.nil_append]
    simp only [↓PX, SX, SYX, EY, simprocAttr, TYX, UX, guard_un]
    refine CallVC.intro (c_alive17) trivial rfl rfl ?_
    simp only [↓PX, SX, SYX, EY, simprocAttr, TYX, UX, guard_un, d0, d1, d2, d3]
  | false =>
  cases d4 : decide ((l.length : Int) ≤ at0) with
  | true =>
    refine contract_of (N := _) (vars := _) (c := bodyOf Try.f5) Try.func5 (body_eq rfl) rfl rfl (by rfl) mixed _ _ trivial 1000 ?_
    simp only [bodyOf, Try.f5, Option.getD_some, argA, argE, List.length_cons, List.length_nil, Nat.reduceAdd, Nat.reduceSub, List.replicate, List.cons_append, List.nil_append]
    simp only [↓PX, SX, SYX, EY, simprocAttr, TYX, UX, guard_un]
    refine CallVC.intro (c_alive17) trivial rfl rfl ?_
    simp only [↓PX, SX, SYX, EY, simprocAttr, TYX, UX, guard_un, d0, d1, d2, d3, d4]
  | false =>
    have q2 := of_decide_eq_false d2
    have q3 := of_decide_eq_false d3
    have q4 := of_decide_eq_false d4
    obtain ⟨i, rfl⟩ : ∃ i : Nat, at0 = (i : Int) := ⟨at0.toNat, by omega⟩
    have hi : i < l.length := by omega
    have ld := eL_ld (l := l) (j := i) hi
    have st := eL_st (l := l) (j := i) (v := v) hi
    refine contract_of (N := _) (vars := _) (c := bodyOf Try.f5) Try.func5 (body_eq rfl) rfl rfl (by rfl) mixed _ _ trivial 1000 ?_
    simp only [bodyOf, Try.f5, Option.getD_some, argA, argE, List.length_cons, List.length_nil, Nat.reduceAdd, Nat.reduceSub, List.replicate, List.cons_append, List.nil_append]
    simp only [↓PX, SX, SYX, EY, simprocAttr, TYX, UX, guard_un]
    refine CallVC.intro (c_alive17) trivial rfl rfl ?_
    simp only [↓PX, SX, SYX, EY, simprocAttr, TYX, UX, guard_un, d0, d1, d2, d3, d4]
    refine CallVC.intro (c_CopyElems l (by omega)) ⟨(by simp only [argMatch, SX, SYX, EY, simprocAttr, and_self, List.length_append, List.length_map, List.length_set, TYX, UX, guard_un, st]), trivial⟩ rfl rfl ?_
    simp only [↓PX, SX, SYX, EY, simprocAttr, TYX, UX, guard_un, st]
    have P := pr_of (s := s) (by
      have q0 := of_decide_eq_false d0
      have q1 := of_decide_eq_false d1
      have : s = 0 ∨ s = 1 ∨ s = 2 ∨ s = 3 := by omega
      rcases this with rfl | rfl | rfl | rfl <;> rfl)
    have hw : l.getD i 0 < W256 := by
      rw [List.getD_eq_getElem?_getD, List.getElem?_eq_getElem hi]
      exact hl _ (List.getElem_mem _)
    have hlw : ∀ x ∈ l.set i v, x < W256 := fun x hx => by
      rcases List.mem_or_eq_of_mem_set hx with h | rfl
      · exact hl x h
      · exact hv
    have hsl : (l.set i v).length = l.length := List.length_set
    have cu := u_Compress s θ l hθ hl hb
    have cw := u_Compress s θ (l.set i v) hθ hlw (by rw [hsl]; exact hb)
    rw [hsl] at cw
    repeat (first | refine DrawVC.intro (by kernel_rfl) ?_ | refine And.intro (by omega) ?_ | exact trivial)
    refine CallVC.intro (c_CopyElems l (by omega)) ⟨(by simp only [argMatch, SX, SYX, EY, simprocAttr, and_self, List.length_append, List.length_map, List.length_set, TYX, UX, guard_un]), trivial⟩ rfl rfl ?_
    simp only [↓PX, SX, SYX, EY, simprocAttr, TYX, UX, guard_un]
    refine CallVC.intro (cu) ⟨rfl, rfl, (by simp only [argMatch, SX, SYX, EY, simprocAttr, and_self, List.length_append, List.length_map, List.length_set, TYX, UX, guard_un]), trivial⟩ rfl rfl ?_
    simp only [↓PX, SX, SYX, EY, simprocAttr, TYX, UX, guard_un]
    refine CallVC.intro (cw) ⟨rfl, rfl, (by simp only [argMatch, SX, SYX, EY, simprocAttr, and_self, List.length_append, List.length_map, List.length_set, TYX, UX, guard_un]), trivial⟩ rfl rfl ?_
    simp only [↓PX, SX, SYX, EY, simprocAttr, TYX, UX, guard_un]
    have e1 : eqN (sb (md s) v (l.getD i 0)) 0 = decide (v % md s = l.getD i 0 % md s) := by
      rw [eqN_eq (sb_w s _ _) (by decide), Bool.eq_iff_iff, beq_iff_eq, decide_eq_true_iff, ← κ_inj, ← Nat.mod_eq_of_lt (show sb (md s) v (l.getD i 0) < md s from md_mod s _), ← κ_eq0, κ_sb]
      constructor
      · intro h; grind
      · intro h; rw [h]; grind
    have e2 : eqN ((θ + 0) % md s) 0 = decide (θ % md s = 0) := by
      rw [eqN_eq (md_w s _) (by decide), Nat.add_zero]; rfl
    have e3 : eqN (cpr s θ l) (cpr s θ (l.set i v)) = (decide (v % md s = l.getD i 0 % md s) || (decide ((i : Int) < ((l.length - 1 : Nat) : Int)) && decide (θ % md s = 0))) := by
      rw [eqN_eq (cpr_w s θ _) (cpr_w s θ _), Bool.eq_iff_iff, beq_iff_eq, eq_comm, cpr_set P hi]
      have : ((i : Int) < ((l.length - 1 : Nat) : Int)) ↔ i + 1 < l.length := by omega
      simp [this, and_comm]
    have w6 : IntKind.i64.wrap ((l.length : Int) - 1) = ((l.length - 1 : Nat) : Int) := wP (by omega) (by omega)
    repeat (first | refine DrawVC.intro (by kernel_rfl) ?_ | refine And.intro (by omega) ?_ | exact trivial | simp only [↓PX, SX, SYX, EY, simprocAttr, TYX, UX, guard_un, ld])
    refine CallVC.intro (u_Sub' s v (l.getD i 0) hv hw) ⟨rfl, rfl, rfl, trivial⟩ rfl rfl ?_
    simp only [↓PX, SX, SYX, EY, simprocAttr, TYX, UX, guard_un, e1]
    cases f1 : decide (v % md s = l.getD i 0 % md s) with
    | true =>
      rw [f1] at e3
      repeat (first | refine DrawVC.intro (by kernel_rfl) ?_ | refine And.intro (by omega) ?_ | exact trivial | simp only [↓PX, SX, SYX, EY, simprocAttr, TYX, UX, guard_un, f1, e3])
      refine ExVC.intro _ (X_beq Try.underlying4 rfl rfl) ?_
      simp only [↓PX, SX, SYX, EY, simprocAttr, TYX, UX, guard_un]
      rfl
    | false =>
      rw [f1] at e3
      cases f2 : decide ((i : Int) < ((l.length - 1 : Nat) : Int)) with
      | false =>
        rw [f2] at e3
        repeat (first | refine DrawVC.intro (by kernel_rfl) ?_ | refine And.intro (by omega) ?_ | exact trivial | simp only [↓PX, SX, SYX, EY, simprocAttr, TYX, UX, guard_un, f1, f2, w6, e3])
        refine ExVC.intro _ (X_beq Try.underlying4 rfl rfl) ?_
        simp only [↓PX, SX, SYX, EY, simprocAttr, TYX, UX, guard_un]
        rfl
      | true =>
        rw [f2] at e3
        repeat (first | refine DrawVC.intro (by kernel_rfl) ?_ | refine And.intro (by omega) ?_ | exact trivial | simp only [↓PX, SX, SYX, EY, simprocAttr, TYX, UX, guard_un, f1, f2, w6, e3])
        refine CallVC.intro (u_Add s θ 0 hθ (by decide)) ⟨rfl, rfl, rfl, trivial⟩ rfl rfl ?_
        simp only [↓PX, SX, SYX, EY, simprocAttr, TYX, UX, guard_un, e2]
        refine ExVC.intro _ (X_beq Try.underlying4 rfl rfl) ?_
        simp only [↓PX, SX, SYX, EY, simprocAttr, TYX, UX, guard_un, Bool.true_and, Bool.false_or, beq_self_eq_true]
        rw [Nat.add_zero] at e2
        rw [e2, beq_self_eq_true]
end Go.Sx
