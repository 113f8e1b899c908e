/-
  word.shift and word.Rem. No conditions.
-/
import Derived.Test.YtmgheellmllfpaaZDed
namespace Go.Sx
open Go.Proofs Go.Num
-- SY
-- TY: TYX
set_option maxRecDepth 100000
set_option linter.unusedSimpArgs false
set_option pp.deepTerms true
set_option pp.maxSteps 100000
theorem tw_limb (x y : Nat) (hy : y ≤ 1) : uor (ushl x 1) y = x * 2 % 18446744073709551616 + y := by
  rw [ushl_eq, sh_1]
  have h := (uor_addK y (x * 2 % 18446744073709551616) 1 2 rfl (by omega) (by omega) (by omega)).2
  rw [h, Nat.add_comm]
theorem tw_eq (a q : Nat) (ha : a < W256) (hq : q ≤ 1) : E4 (uor (ushl (L0 a) 1) q) (uor (ushl (L1 a) 1) (ushr (L0 a) 63)) (uor (ushl (L2 a) 1) (ushr (L1 a) 63)) (uor (ushl (L3 a) 1) (ushr (L2 a) 63)) = EN ((2 * a + q) % W256) ∧
    ushr (L3 a) 63 = a / 57896044618658097711785492504343953926634992332820282019728792003956564819968 := by
  have hs := L_sum ha
  have h0 := L0_lt a
  have h1 := L1_lt a
  have h2 := L2_lt a
  have h3 := L3_lt a
  simp only [ushr_eq, sh_63]
  generalize L0 a = x0 at *
  generalize L1 a = x1 at *
  generalize L2 a = x2 at *
  generalize L3 a = x3 at *
  rw [tw_limb _ _ hq, tw_limb _ _ (by omega), tw_limb _ _ (by omega), tw_limb _ _ (by omega)]
  refine ⟨?_, by omega⟩
  rw [E4_EN (a := x0 * 2 % 18446744073709551616 + q) (by omega) (by omega) (by omega) (by omega)]
  refine congrArg EN ?_
  unfold W256
  omega
theorem c_shift (a q : Nat) (ha : a < W256) (hq : q ≤ 1) : Contract Try.prog 75 [.val (EN a), .val (u64 q)] [.val (EN ((2 * a + q) % W256)), .val (u64 (a / 57896044618658097711785492504343953926634992332820282019728792003956564819968))] := by
  refine contract_of (N := _) (vars := _) (c := bodyOf Try.f75) Try.func75 (body_eq rfl) rfl rfl (by rfl) mixed _ _ trivial 1000 ?_
  simp only [bodyOf, Try.f75, Option.getD_some, argA, argE, List.length_cons, List.length_nil, Nat.reduceAdd, Nat.reduceSub, List.replicate, List.cons_append, List.nil_append]
  simp only [↓PX, SX, SYX, EY, simprocAttr, TYX]
  refine loop_rounds 5 ?_
  refine RoundsVC.step mixed trivial 1000 ?_
  simp only [↓PX, SX, SYX, EY, simprocAttr, TYX]
  repeat (first | refine DrawVC.intro (by kernel_rfl) ?_ | refine And.intro (by omega) ?_ | exact trivial)
  refine RoundsVC.step mixed trivial 1000 ?_
  simp only [↓PX, SX, SYX, EY, simprocAttr, TYX]
  repeat (first | refine DrawVC.intro (by kernel_rfl) ?_ | refine And.intro (by omega) ?_ | exact trivial)
  refine RoundsVC.step mixed trivial 1000 ?_
  simp only [↓PX, SX, SYX, EY, simprocAttr, TYX]
  repeat (first | refine DrawVC.intro (by kernel_rfl) ?_ | refine And.intro (by omega) ?_ | exact trivial)
  refine RoundsVC.step mixed trivial 1000 ?_
  simp only [↓PX, SX, SYX, EY, simprocAttr, TYX]
  repeat (first | refine DrawVC.intro (by kernel_rfl) ?_ | refine And.intro (by omega) ?_ | exact trivial)
  refine RoundsVC.step mixed trivial 1000 ?_
  simp only [↓PX, SX, SYX, EY, simprocAttr, TYX]
  obtain ⟨e1, e2⟩ := tw_eq a q ha hq
  rw [e1, e2]
  exact ⟨rfl, rfl⟩
theorem un73 : Try.prog.underlying 73 = some (.array 2 24) := by kernel_rfl
theorem indexEE {T : Nat → AV} {x i : Operand} {cs : Array Value} {j : Int} {v : Value} (hx : ev T x = .o (.v (.agg cs))) (hi : ev T i = .o (.v (.int .i64 j))) (h0 : 0 ≤ j) (h2 : j < 2) (hv : v = .agg (cs.extract (j.toNat * 4) (j.toNat * 4 + 4))) :
    pureOp Try.prog T (.index 73 x i) v := by
  intro o f w ho hf _
  have e1 := hf x (by simp [Op.operands]) _ hx
  have e2 := hf i (by simp [Op.operands]) _ hi
  have hg : aggT Try.prog 24 = some true := by kernel_rfl
  have hz : tsz Try.prog 24 = some 4 := by kernel_rfl
  have hp : (part 24 cs (j.toNat * 4)).run Try.prog w = .ok v w := by
    rw [hv]
    simp [part, run_isAgg' hg, run_sizeOf' hz]
  simp [execOp, ho, e1, e2, Instr.index, run_underlying un73, h0, h2, asIntOf, run_sizeOf' hz, hp]
section
variable {Q : St → Prop} {n : Nat} {dr : Bool} {all rest : List Oper} {k : List Frm} {st : St} {d : Option Nat}
theorem XIE {x i : Operand} {cs : Array Value} {j : Int} (v : Value) (hx : ev st.T x = .o (.v (.agg cs))) (hi : ev st.T i = .o (.v (.int .i64 j))) (h0 : 0 ≤ j) (h2 : j < 2) (hv : v = .agg (cs.extract (j.toNat * 4) (j.toNat * 4 + 4)))
    (h : vcx Try.prog Q n (.ops dr all rest :: k) (st.put d (val v))) : ExVC Try.prog Q n dr all rest k st d (pureOp Try.prog st.T (.index 73 x i)) :=
  ExVC.intro v (indexEE hx hi h0 h2 hv) h
end
theorem rem_step {m R h r i : Nat} (hi : i < 256) (hr : r = (R * 2 ^ (256 - (i + 1)) + h / 2 ^ (i + 1)) % m) : (2 * r + h / 2 ^ i % 2) % m = (R * 2 ^ (256 - i) + h / 2 ^ i) % m := by
  have e : h / 2 ^ i = 2 * (h / 2 ^ (i + 1)) + h / 2 ^ i % 2 := by
    rw [Nat.pow_succ, ← Nat.div_div_eq_div_mul]
    omega
  have e2 : R * 2 ^ (256 - i) = 2 * (R * 2 ^ (256 - (i + 1))) := by
    rw [show 256 - i = (256 - (i + 1)) + 1 by omega, Nat.pow_succ]
    rw [← Nat.mul_assoc, Nat.mul_comm]
  conv => rhs; rw [e, e2]
  generalize h / 2 ^ (i + 1) = q at *
  generalize h / 2 ^ i % 2 = c at *
  generalize R * 2 ^ (256 - (i + 1)) = z at *
  rw [hr, ← Nat.mod_add_mod, Nat.mul_mod_mod, Nat.mod_add_mod]
  refine congrArg (· % m) ?_
  omega
theorem bit_lb {x i : Nat} : ushr (lb x (i / 64)) (i % 64) % 2 = x / 2 ^ i % 2 := bitLX x i
theorem zL : (L0 0 = 0) ∧ (L1 0 = 0) ∧ (L2 0 = 0) ∧ (L3 0 = 0) := by decide
theorem dv63 {r : Nat} : (2 * r) / W256 = r / 57896044618658097711785492504343953926634992332820282019728792003956564819968 := by unfold W256; omega
/-- One step of a remainder, bit by bit. -/
theorem rem_pick {r m q : Nat} (hm : m < W256) (hr : r < m) (hq : q ≤ 1) : (r / 57896044618658097711785492504343953926634992332820282019728792003956564819968 = 0 ∧ (2 * r + q) % W256 < m → (2 * r + q) % W256 = (2 * r + q) % m) ∧
    (¬ (r / 57896044618658097711785492504343953926634992332820282019728792003956564819968 = 0 ∧ (2 * r + q) % W256 < m) → ((2 * r + q) % W256 + W256 - m) % W256 = (2 * r + q) % m) := by
  unfold W256 at *
  constructor
  · rintro ⟨h1, h2⟩
    rw [Nat.mod_eq_of_lt (a := 2 * r + q) (by omega)] at h2 ⊢
    rw [Nat.mod_eq_of_lt h2]
  · intro h
    have h3 : m ≤ 2 * r + q := by
      apply Classical.byContradiction
      intro h4
      apply h
      refine ⟨by omega, ?_⟩
      rw [Nat.mod_eq_of_lt (by omega)]
      omega
    rw [Nat.mod_eq_sub_mod h3, Nat.mod_eq_of_lt (a := 2 * r + q - m) (by omega)]
    omega
theorem c_Rem (lo H m : Nat) (hlo : lo < W256) (hH : H < W256) (hm : m < W256) (h0 : 0 < m) : Contract Try.prog 69 [.val (EN lo), .val (EN H), .val (EN m)] [.val (EN ((H * W256 + lo) % m)), .val (.int .i64 0)] := by
  obtain ⟨Z, hZ⟩ : ∃ z : Nat, z = 0 := ⟨0, rfl⟩
  have e0 : eqN m 0 = false := by rw [eqN_eq hm (by decide)]; simp; omega
  refine contract_of (N := _) (vars := _) (c := bodyOf Try.f69) Try.func69 (body_eq rfl) rfl rfl (by rfl) mixed _ _ trivial 1000 ?_
  simp only [bodyOf, Try.f69, Option.getD_some, argA, argE, List.length_cons, List.length_nil, Nat.reduceAdd, Nat.reduceSub, List.replicate, List.cons_append, List.nil_append]
  simp only [↓PX, SX, SYX, EY, simprocAttr, TYX]
  simp only [↓PX, SX, SYX, EY, simprocAttr, TYX, e0]
  refine loop_rounds 3 ?_
  refine RoundsVC.step mixed trivial 1000 ?_
  simp only [↓PX, SX, SYX, EY, simprocAttr, TYX]
  refine XIE (EN H) (by rfl) (by rfl) (by decide) (by decide) rfl ?_
  simp only [↓PX, SX, SYX, EY, simprocAttr, TYX]
  refine loop_hav ?_
  simp only [↓PX, SX, SYX, EY, simprocAttr, TYX]
  refine loop_go mixed (by trivial) (γ := Nat × Nat) (fun p => p.1 ≤ 256 ∧ p.2 = (Z * 2 ^ (256 - p.1) + H / 2 ^ p.1) % m) (fun p => p.1) (fun p => [(11, .o (.v (.int .i64 ((p.1 : Int) - 1))))]) (fun p => [(35, .box [u64 (L0 p.2), u64 (L1 p.2), u64 (L2 p.2), u64 (L3 p.2)])]) (256, 0) ⟨Nat.le_refl 256, by rw [hZ, show (256, 0).1 = 256 by rfl, show 2 ^ 256 = W256 by rfl, Nat.div_eq_of_lt hH]; simp⟩ (St.le_of id (by simp [-List.getD_eq_getElem?_getD, SYX, iv, Tle, AVle, A0le, Mem.get, zL.1, zL.2.1, zL.2.2.1, zL.2.2.2]) (by simp [-List.getD_eq_getElem?_getD, SYX, Mle, Ele, Mem.get, zL.1, zL.2.1, zL.2.2.1, zL.2.2.2]) (by simp [SYX]) (by simp [SYX])) ?_
  intro p hp
  obtain ⟨i, r⟩ := p
  simp only at hp
  obtain ⟨hj, hr⟩ := hp
  have hrm : r < m := by rw [hr]; exact Nat.mod_lt _ h0
  simp only
  simp only [↓PX, SX, SYX, EY, simprocAttr, TYX]
  refine cond_split (fun h1 => ?_) (fun h1 => ?_)
  · have h1 : 1 ≤ i := by
      have : (0 : Int) ≤ (i : Int) - 1 := by simpa using h1
      omega
    obtain ⟨j, rfl⟩ : ∃ j, i = j + 1 := ⟨i - 1, by omega⟩
    have h2 : j / 64 < 4 := by omega
    have h3 : j % 64 < 18446744073709551616 := by omega
    have hq : H / 2 ^ j % 2 ≤ 1 := by omega
    have hrW : r < W256 := by omega
    have rs := rem_step (by omega) hr
    simp only [↓PX, SX, SYX, EY, simprocAttr, TYX, Down.hz, Down.quo (i := j) (by omega), Down.rem, Down.conv, lb_at h2, bit_lb]
    repeat (first | refine DrawVC.intro (by kernel_rfl) ?_ | refine And.intro (by omega) ?_ | exact trivial)
    refine CallVC.intro (c_shift r (H / 2 ^ j % 2) hrW hq) ⟨rfl, rfl, trivial⟩ rfl rfl ?_
    simp only [↓PX, SX, SYX, EY, simprocAttr, TYX]
    refine CallVC.intro (c_word_sub _ m (Nat.mod_lt _ (by decide)) hm) ⟨rfl, rfl, trivial⟩ rfl rfl ?_
    simp only [↓PX, SX, SYX, EY, simprocAttr, TYX]
    by_cases c1 : r / 57896044618658097711785492504343953926634992332820282019728792003956564819968 = 0
    · by_cases c2 : (2 * r + H / 2 ^ j % 2) % W256 < m
      · have pk := (rem_pick hm hrm hq).1 ⟨c1, c2⟩
        have e1 : (r / 57896044618658097711785492504343953926634992332820282019728792003956564819968 != 0) = false := by simp only [c1]; rfl
        have e2 : decide ((2 * r + H / 2 ^ j % 2) % W256 < m) = true := decide_eq_true c2
        simp only [↓PX, SX, SYX, EY, simprocAttr, TYX, e1, e2, Down.next (i := j) (by omega)]
        exact ⟨(j, (2 * r + H / 2 ^ j % 2) % m), ⟨by show j ≤ 256; omega, rs⟩, by show j < j + 1; omega, (St.le_of id (by simp [-List.getD_eq_getElem?_getD, SYX, iv, Tle, AVle, A0le, Mem.get, pk]) (by simp [-List.getD_eq_getElem?_getD, SYX, Mle, Ele, Mem.get, pk]) (by simp [SYX]) (by simp [SYX]))⟩
      · have pk := (rem_pick hm hrm hq).2 (fun c3 => c2 c3.2)
        have e1 : (r / 57896044618658097711785492504343953926634992332820282019728792003956564819968 != 0) = false := by simp only [c1]; rfl
        have e2 : decide ((2 * r + H / 2 ^ j % 2) % W256 < m) = false := decide_eq_false c2
        simp only [↓PX, SX, SYX, EY, simprocAttr, TYX, e1, e2, Down.next (i := j) (by omega)]
        exact ⟨(j, (2 * r + H / 2 ^ j % 2) % m), ⟨by show j ≤ 256; omega, rs⟩, by show j < j + 1; omega, (St.le_of id (by simp [-List.getD_eq_getElem?_getD, SYX, iv, Tle, AVle, A0le, Mem.get, pk]) (by simp [-List.getD_eq_getElem?_getD, SYX, Mle, Ele, Mem.get, pk]) (by simp [SYX]) (by simp [SYX]))⟩
    · have pk := (rem_pick hm hrm hq).2 (fun c3 => c1 c3.1)
      have e1 : (r / 57896044618658097711785492504343953926634992332820282019728792003956564819968 != 0) = true := by simpa using c1
      simp only [↓PX, SX, SYX, EY, simprocAttr, TYX, e1, Down.next (i := j) (by omega)]
      exact ⟨(j, (2 * r + H / 2 ^ j % 2) % m), ⟨by show j ≤ 256; omega, rs⟩, by show j < j + 1; omega, (St.le_of id (by simp [-List.getD_eq_getElem?_getD, SYX, iv, Tle, AVle, A0le, Mem.get, pk]) (by simp [-List.getD_eq_getElem?_getD, SYX, Mle, Ele, Mem.get, pk]) (by simp [SYX]) (by simp [SYX]))⟩
  have h1 : i = 0 := by
    have : ¬ (0 : Int) ≤ (i : Int) - 1 := by simpa using h1
    omega
  subst h1
  clear h1
  simp only [↓PX, SX, SYX, EY, simprocAttr, TYX]
  obtain ⟨r0, h9⟩ : ∃ r0, r0 = r := ⟨r, rfl⟩
  rw [← h9]
  have hr0 : r0 = (H * 2 ^ (256 - 256) + lo / 2 ^ 256) % m := by
    rw [h9, hr, hZ, show 2 ^ 256 = W256 by rfl, Nat.div_eq_of_lt hlo]
    simp
  clear hr hrm h9 hj
  clear r
  refine RoundsVC.step mixed trivial 1000 ?_
  simp only [↓PX, SX, SYX, EY, simprocAttr, TYX]
  refine XIE (EN lo) (by rfl) (by rfl) (by decide) (by decide) rfl ?_
  simp only [↓PX, SX, SYX, EY, simprocAttr, TYX]
  refine loop_hav ?_
  simp only [↓PX, SX, SYX, EY, simprocAttr, TYX]
  refine loop_go mixed (by trivial) (γ := Nat × Nat) (fun p => p.1 ≤ 256 ∧ p.2 = (H * 2 ^ (256 - p.1) + lo / 2 ^ p.1) % m) (fun p => p.1) (fun p => [(11, .o (.v (.int .i64 ((p.1 : Int) - 1))))]) (fun p => [(35, .box [u64 (L0 p.2), u64 (L1 p.2), u64 (L2 p.2), u64 (L3 p.2)])]) (256, r0) ⟨Nat.le_refl 256, hr0⟩ (St.le_of id (by simp [-List.getD_eq_getElem?_getD, SYX, iv, Tle, AVle, A0le, Mem.get, zL.1, zL.2.1, zL.2.2.1, zL.2.2.2]) (by simp [-List.getD_eq_getElem?_getD, SYX, Mle, Ele, Mem.get, zL.1, zL.2.1, zL.2.2.1, zL.2.2.2]) (by simp [SYX]) (by simp [SYX])) ?_
  intro p hp
  obtain ⟨i, r⟩ := p
  simp only at hp
  obtain ⟨hj, hr⟩ := hp
  have hrm : r < m := by rw [hr]; exact Nat.mod_lt _ h0
  simp only
  simp only [↓PX, SX, SYX, EY, simprocAttr, TYX]
  refine cond_split (fun h1 => ?_) (fun h1 => ?_)
  · have h1 : 1 ≤ i := by
      have : (0 : Int) ≤ (i : Int) - 1 := by simpa using h1
      omega
    obtain ⟨j, rfl⟩ : ∃ j, i = j + 1 := ⟨i - 1, by omega⟩
    have h2 : j / 64 < 4 := by omega
    have h3 : j % 64 < 18446744073709551616 := by omega
    have hq : lo / 2 ^ j % 2 ≤ 1 := by omega
    have hrW : r < W256 := by omega
    have rs := rem_step (by omega) hr
    simp only [↓PX, SX, SYX, EY, simprocAttr, TYX, Down.hz, Down.quo (i := j) (by omega), Down.rem, Down.conv, lb_at h2, bit_lb]
    repeat (first | refine DrawVC.intro (by kernel_rfl) ?_ | refine And.intro (by omega) ?_ | exact trivial)
    refine CallVC.intro (c_shift r (lo / 2 ^ j % 2) hrW hq) ⟨rfl, rfl, trivial⟩ rfl rfl ?_
    simp only [↓PX, SX, SYX, EY, simprocAttr, TYX]
    refine CallVC.intro (c_word_sub _ m (Nat.mod_lt _ (by decide)) hm) ⟨rfl, rfl, trivial⟩ rfl rfl ?_
    simp only [↓PX, SX, SYX, EY, simprocAttr, TYX]
    by_cases c1 : r / 57896044618658097711785492504343953926634992332820282019728792003956564819968 = 0
    · by_cases c2 : (2 * r + lo / 2 ^ j % 2) % W256 < m
      · have pk := (rem_pick hm hrm hq).1 ⟨c1, c2⟩
        have e1 : (r / 57896044618658097711785492504343953926634992332820282019728792003956564819968 != 0) = false := by simp only [c1]; rfl
        have e2 : decide ((2 * r + lo / 2 ^ j % 2) % W256 < m) = true := decide_eq_true c2
        simp only [↓PX, SX, SYX, EY, simprocAttr, TYX, e1, e2, Down.next (i := j) (by omega)]
        exact ⟨(j, (2 * r + lo / 2 ^ j % 2) % m), ⟨by show j ≤ 256; omega, rs⟩, by show j < j + 1; omega, (St.le_of id (by simp [-List.getD_eq_getElem?_getD, SYX, iv, Tle, AVle, A0le, Mem.get, pk]) (by simp [-List.getD_eq_getElem?_getD, SYX, Mle, Ele, Mem.get, pk]) (by simp [SYX]) (by simp [SYX]))⟩
      · have pk := (rem_pick hm hrm hq).2 (fun c3 => c2 c3.2)
        have e1 : (r / 57896044618658097711785492504343953926634992332820282019728792003956564819968 != 0) = false := by simp only [c1]; rfl
        have e2 : decide ((2 * r + lo / 2 ^ j % 2) % W256 < m) = false := decide_eq_false c2
        simp only [↓PX, SX, SYX, EY, simprocAttr, TYX, e1, e2, Down.next (i := j) (by omega)]
        exact ⟨(j, (2 * r + lo / 2 ^ j % 2) % m), ⟨by show j ≤ 256; omega, rs⟩, by show j < j + 1; omega, (St.le_of id (by simp [-List.getD_eq_getElem?_getD, SYX, iv, Tle, AVle, A0le, Mem.get, pk]) (by simp [-List.getD_eq_getElem?_getD, SYX, Mle, Ele, Mem.get, pk]) (by simp [SYX]) (by simp [SYX]))⟩
    · have pk := (rem_pick hm hrm hq).2 (fun c3 => c1 c3.1)
      have e1 : (r / 57896044618658097711785492504343953926634992332820282019728792003956564819968 != 0) = true := by simpa using c1
      simp only [↓PX, SX, SYX, EY, simprocAttr, TYX, e1, Down.next (i := j) (by omega)]
      exact ⟨(j, (2 * r + lo / 2 ^ j % 2) % m), ⟨by show j ≤ 256; omega, rs⟩, by show j < j + 1; omega, (St.le_of id (by simp [-List.getD_eq_getElem?_getD, SYX, iv, Tle, AVle, A0le, Mem.get, pk]) (by simp [-List.getD_eq_getElem?_getD, SYX, Mle, Ele, Mem.get, pk]) (by simp [SYX]) (by simp [SYX]))⟩
  have h1 : i = 0 := by
    have : ¬ (0 : Int) ≤ (i : Int) - 1 := by simpa using h1
    omega
  subst h1
  clear h1
  simp only [↓PX, SX, SYX, EY, simprocAttr, TYX]
  refine RoundsVC.step mixed trivial 1000 ?_
  simp only [↓PX, SX, SYX, EY, simprocAttr, TYX]
  have e9 : r = (H * W256 + lo) % m := by
    rw [hr, show 256 - 0 = 256 by rfl, show 2 ^ 256 = W256 by rfl]
    simp
  rw [e9]

theorem c_twice (a : Nat) (ha : a < W256) : Contract Try.prog 77 [.val (EN a)] [.val (EN ((2 * a) % W256)), .val (.bool (a / 57896044618658097711785492504343953926634992332820282019728792003956564819968 == 1))] := by
  refine contract_of (N := _) (vars := _) (c := bodyOf Try.f77) Try.func77 (body_eq rfl) rfl rfl (by rfl) mixed _ _ trivial 1000 ?_
  simp only [bodyOf, Try.f77, Option.getD_some, argA, argE, List.length_cons, List.length_nil, Nat.reduceAdd, Nat.reduceSub, List.replicate, List.cons_append, List.nil_append]
  simp only [↓PX, SX, SYX, EY, simprocAttr, TYX]
  refine loop_rounds 5 ?_
  refine RoundsVC.step mixed trivial 1000 ?_
  simp only [↓PX, SX, SYX, EY, simprocAttr, TYX]
  repeat (first | refine DrawVC.intro (by kernel_rfl) ?_ | refine And.intro (by omega) ?_ | exact trivial)
  refine RoundsVC.step mixed trivial 1000 ?_
  simp only [↓PX, SX, SYX, EY, simprocAttr, TYX]
  repeat (first | refine DrawVC.intro (by kernel_rfl) ?_ | refine And.intro (by omega) ?_ | exact trivial)
  refine RoundsVC.step mixed trivial 1000 ?_
  simp only [↓PX, SX, SYX, EY, simprocAttr, TYX]
  repeat (first | refine DrawVC.intro (by kernel_rfl) ?_ | refine And.intro (by omega) ?_ | exact trivial)
  refine RoundsVC.step mixed trivial 1000 ?_
  simp only [↓PX, SX, SYX, EY, simprocAttr, TYX]
  repeat (first | refine DrawVC.intro (by kernel_rfl) ?_ | refine And.intro (by omega) ?_ | exact trivial)
  refine RoundsVC.step mixed trivial 1000 ?_
  simp only [↓PX, SX, SYX, EY, simprocAttr, TYX]
  obtain ⟨e1, e2⟩ := tw_eq a 0 ha (by decide)
  rw [e1, e2]
  exact ⟨rfl, rfl⟩
end Go.Sx
