/-
  sigilref01: Rem. No conditions.
-/
import Derived.Test.YtmgheellmllfpaaZMin
namespace Go.Sx
open Go.Proofs Go.Num
-- SY
-- TY: TYX, iL_len, iL_one, iL_mk, iL_app1, btL_len
set_option maxRecDepth 100000
set_option exponentiation.threshold 600
set_option linter.unusedSimpArgs false
set_option pp.deepTerms true
set_option pp.maxSteps 100000
theorem bt_cat {lo H : Nat} (hlo : lo < W256) : LC iC (btL lo 256) ++ LC iC (btL H 256) = LC iC (btL (H * W256 + lo) 512) := by
  rw [LC_app]
  refine congrArg _ ?_
  refine List.ext_getElem (by simp [btL]) fun j h1 h2 => ?_
  have h3 : j < 512 := by simpa [btL] using h2
  rw [List.getElem_append]
  by_cases h : j < 256
  · have : j < (btL lo 256).length := by simpa [btL] using h
    rw [dif_pos this]
    simp only [btL, List.getElem_map, List.getElem_range]
    refine congrArg _ ?_
    unfold bt
    have e : W256 = 2 ^ j * (2 * 2 ^ (255 - j)) := by
      rw [← Nat.pow_succ', ← Nat.pow_add, show j + (255 - j).succ = 256 by omega]
      rfl
    rw [e, Nat.mul_left_comm, Nat.add_comm, Nat.add_mul_div_left _ _ (Nat.two_pow_pos j)]
    rw [show H * (2 * 2 ^ (255 - j)) = 2 * (H * 2 ^ (255 - j)) by rw [Nat.mul_left_comm]]
    omega
  · have : ¬ j < (btL lo 256).length := by simpa [btL] using h
    rw [dif_neg this]
    simp only [btL, List.getElem_map, List.getElem_range, List.length_map, List.length_range]
    refine congrArg _ ?_
    unfold bt
    have e : 2 ^ j = W256 * 2 ^ (j - 256) := by
      rw [show W256 = 2 ^ 256 by rfl, ← Nat.pow_add, show 256 + (j - 256) = j by omega]
    rw [e, ← Nat.div_div_eq_div_mul, show (H * W256 + lo) / W256 = H by unfold W256 at *; omega]
theorem rem_bit {m N r j : Nat} (hr : r = N / 2 ^ (j + 1) % m) : (2 * r + bt N j) % m = N / 2 ^ j % m := by
  have e : N / 2 ^ j = 2 * (N / 2 ^ (j + 1)) + bt N j := by
    unfold bt
    rw [Nat.pow_succ, ← Nat.div_div_eq_div_mul]
    omega
  conv => rhs; rw [e]
  rw [hr, ← Nat.mod_add_mod, Nat.mul_mod_mod, Nat.mod_add_mod]
theorem or_odd (r : Nat) : uor (L0 (2 * r % W256)) 1 = L0 ((2 * r + 1) % W256) ∧ L1 (2 * r % W256) = L1 ((2 * r + 1) % W256) ∧ L2 (2 * r % W256) = L2 ((2 * r + 1) % W256) ∧ L3 (2 * r % W256) = L3 ((2 * r + 1) % W256) := by
  have h : (2 * r + 1) % W256 = 2 * r % W256 + 1 := by unfold W256; omega
  have h2 : 2 * r % W256 % 2 = 0 := by unfold W256; omega
  rw [h]
  generalize 2 * r % W256 = d at *
  refine ⟨?_, ?_, ?_, ?_⟩
  · have e : L0 d = (L0 d / 2) * 2 := by unfold L0; omega
    have hl := L0_lt d
    have he : L0 d % 2 = 0 := by unfold L0; omega
    have h := (uor_addK 1 (L0 d) 1 2 rfl (by omega) (by omega) (by omega)).2
    rw [h]
    unfold L0
    omega
  · unfold L1; omega
  · unfold L2; omega
  · unfold L3; omega
theorem down1 {j : Nat} (h : j < 512) : IntKind.i64.wrap ((j : Int) - 1) = (j : Int) - 1 := by
  rw [IntKind.wrap_i64]
  omega
theorem v_Rem (lo H m : Nat) (hlo : lo < W256) (hH : H < W256) (hm : m < W256) (h0 : 0 < m) : Contract Try.prog 70 [.val (EN lo), .val (EN H), .val (EN m)] [.val (EN ((H * W256 + lo) % m)), .val (.int .i64 0)] := by
  have e0 : eqN m 0 = false := by rw [eqN_eq hm (by decide)]; simp; omega
  obtain ⟨N, hN⟩ : ∃ N, N = H * W256 + lo := ⟨_, rfl⟩
  have hN2 : N / 2 ^ 512 = 0 := by
    refine Nat.div_eq_of_lt ?_
    rw [hN, show 2 ^ 512 = W256 * W256 by rfl]
    unfold W256 at *
    omega
  rw [← hN]
  refine contract_of (N := _) (vars := _) (c := bodyOf Try.f70) Try.func70 (body_eq rfl) rfl rfl (by rfl) mixed _ _ trivial 1000 ?_
  simp only [bodyOf, Try.f70, Option.getD_some, argA, argE, List.length_cons, List.length_nil, Nat.reduceAdd, Nat.reduceSub, List.replicate, List.cons_append, List.nil_append]
  simp only [↓PX, SX, SYX, EY, simprocAttr, TYX, iL_len, iL_one, iL_mk, iL_app1, btL_len]
  simp only [↓PX, SX, SYX, EY, simprocAttr, TYX, iL_len, iL_one, iL_mk, iL_app1, btL_len, e0]
  refine CallVC.intro (c_Bits lo hlo) ⟨rfl, trivial⟩ rfl rfl ?_
  simp only [↓PX, SX, SYX, EY, simprocAttr, TYX, iL_len, iL_one, iL_mk, iL_app1, btL_len]
  refine CallVC.intro (c_Bits H hH) ⟨rfl, trivial⟩ rfl rfl ?_
  simp only [↓PX, SX, SYX, EY, simprocAttr, TYX, iL_len, iL_one, iL_mk, iL_app1, btL_len, bt_cat hlo, ← hN]
  refine loop_hav ?_
  simp only [↓PX, SX, SYX, EY, simprocAttr, TYX, iL_len, iL_one, iL_mk, iL_app1, btL_len, ← hN, bt_cat hlo]
  refine loop_go mixed (by trivial) (γ := Nat × Nat) (fun p => p.1 ≤ 512 ∧ p.2 = N / 2 ^ p.1 % m) (fun p => p.1) (fun p => [(11, .o (.v (.int .i64 ((p.1 : Int) - 1))))]) (fun p => [(83, .box [u64 (L0 p.2), u64 (L1 p.2), u64 (L2 p.2), u64 (L3 p.2)])]) (512, 0) ⟨Nat.le_refl 512, by rw [show (512, 0).1 = 512 by rfl, hN2, Nat.zero_mod]⟩ (St.le_of id (by simp [-List.getD_eq_getElem?_getD, SYX, iv, Tle, AVle, A0le, Mem.get]) (by simp [-List.getD_eq_getElem?_getD, SYX, Mle, Ele, Mem.get]) (by simp [SYX]) (by simp [SYX])) ?_
  intro p hp
  obtain ⟨i, r⟩ := p
  simp only at hp
  obtain ⟨hj, hr⟩ := hp
  have hrm : r < m := by rw [hr]; exact Nat.mod_lt _ h0
  have hrW : r < W256 := by omega
  simp only
  simp only [↓PX, SX, SYX, EY, simprocAttr, TYX, iL_len, iL_one, iL_mk, iL_app1, btL_len]
  refine cond_split (fun h1 => ?_) (fun h1 => ?_)
  · have h1 : 1 ≤ i := by
      have : (0 : Int) ≤ (i : Int) - 1 := by simpa using h1
      omega
    obtain ⟨j, rfl⟩ : ∃ j, i = j + 1 := ⟨i - 1, by omega⟩
    have hl : j < (btL N 512).length := by rw [btL_len]; omega
    have la := btL_at (a := N) (n := 512) (i := j) (by omega)
    have o := or_odd r
    simp only [↓PX, SX, SYX, EY, simprocAttr, TYX, iL_len, iL_one, iL_mk, iL_app1, btL_len, Down.hz]
    refine CallVC.intro (c_twice r hrW) ⟨rfl, trivial⟩ rfl rfl ?_
    simp only [↓PX, SX, SYX, EY, simprocAttr, TYX, iL_len, iL_one, iL_mk, iL_app1, btL_len]
    simp only [↓PX, SX, SYX, EY, simprocAttr, TYX, iL_len, iL_one, iL_mk, iL_app1, btL_len, iL_ld hl, la]
    by_cases hb : bt N j = 1
    · have eb : (((bt N j : Nat) : Int) == 1) = true := by rw [hb]; rfl
      have rs : (2 * r + 1) % m = N / 2 ^ j % m := by
        have := rem_bit (m := m) (N := N) (j := j) hr
        rw [hb] at this
        exact this
      have pk : (r / 57896044618658097711785492504343953926634992332820282019728792003956564819968 = 0 ∧ (2 * r + 1) % W256 < m → (2 * r + 1) % W256 = (2 * r + 1) % m) ∧ (¬ (r / 57896044618658097711785492504343953926634992332820282019728792003956564819968 = 0 ∧ (2 * r + 1) % W256 < m) → ((2 * r + 1) % W256 + W256 - m) % W256 = (2 * r + 1) % m) := rem_pick (q := 1) hm hrm (by decide)
      have hD : (2 * r + 1) % W256 < W256 := Nat.mod_lt _ (by decide)
      by_cases c1 : r / 57896044618658097711785492504343953926634992332820282019728792003956564819968 = 0
      · have e1 : (r / 57896044618658097711785492504343953926634992332820282019728792003956564819968 == 1) = false := by rw [c1]; rfl
        by_cases c2 : (2 * r + 1) % W256 < m
        · have e2 : decide ((2 * r + 1) % W256 < m) = true := decide_eq_true c2
          have pk := pk.1 ⟨c1, c2⟩
          simp only [↓PX, SX, SYX, EY, simprocAttr, TYX, iL_len, iL_one, iL_mk, iL_app1, btL_len, e1, eb, o.1, o.2.1, o.2.2.1, o.2.2.2]
          repeat (first | refine DrawVC.intro (by kernel_rfl) ?_ | refine And.intro (by omega) ?_ | exact trivial)
          refine CallVC.intro (c_lower ((2 * r + 1) % W256) m hD hm) ⟨rfl, rfl, trivial⟩ rfl rfl ?_
          simp only [↓PX, SX, SYX, EY, simprocAttr, TYX, iL_len, iL_one, iL_mk, iL_app1, btL_len, e2]
          exact ⟨(j, (2 * r + 1) % m), ⟨by show j ≤ 512; omega, rs⟩, by show j < j + 1; omega, (St.le_of id (by simp [-List.getD_eq_getElem?_getD, SYX, iv, Tle, AVle, A0le, Mem.get, pk, down1 (by omega : j < 512)]) (by simp [-List.getD_eq_getElem?_getD, SYX, Mle, Ele, Mem.get, pk, down1 (by omega : j < 512)]) (by simp [SYX]) (by simp [SYX]))⟩
        · have e2 : decide ((2 * r + 1) % W256 < m) = false := decide_eq_false c2
          have pk := pk.2 (fun c3 => c2 c3.2)
          simp only [↓PX, SX, SYX, EY, simprocAttr, TYX, iL_len, iL_one, iL_mk, iL_app1, btL_len, e1, eb, o.1, o.2.1, o.2.2.1, o.2.2.2]
          repeat (first | refine DrawVC.intro (by kernel_rfl) ?_ | refine And.intro (by omega) ?_ | exact trivial)
          refine CallVC.intro (c_lower ((2 * r + 1) % W256) m hD hm) ⟨rfl, rfl, trivial⟩ rfl rfl ?_
          simp only [↓PX, SX, SYX, EY, simprocAttr, TYX, iL_len, iL_one, iL_mk, iL_app1, btL_len, e2]
          refine CallVC.intro (c_less ((2 * r + 1) % W256) m hD hm) ⟨rfl, rfl, trivial⟩ rfl rfl ?_
          simp only [↓PX, SX, SYX, EY, simprocAttr, TYX, iL_len, iL_one, iL_mk, iL_app1, btL_len]
          exact ⟨(j, (2 * r + 1) % m), ⟨by show j ≤ 512; omega, rs⟩, by show j < j + 1; omega, (St.le_of id (by simp [-List.getD_eq_getElem?_getD, SYX, iv, Tle, AVle, A0le, Mem.get, pk, down1 (by omega : j < 512)]) (by simp [-List.getD_eq_getElem?_getD, SYX, Mle, Ele, Mem.get, pk, down1 (by omega : j < 512)]) (by simp [SYX]) (by simp [SYX]))⟩
      · have e1 : (r / 57896044618658097711785492504343953926634992332820282019728792003956564819968 == 1) = true := by
          have : r / 57896044618658097711785492504343953926634992332820282019728792003956564819968 = 1 := by unfold W256 at hrW; omega
          rw [this]; rfl
        have pk := pk.2 (fun c3 => c1 c3.1)
        simp only [↓PX, SX, SYX, EY, simprocAttr, TYX, iL_len, iL_one, iL_mk, iL_app1, btL_len, e1, eb, o.1, o.2.1, o.2.2.1, o.2.2.2]
        repeat (first | refine DrawVC.intro (by kernel_rfl) ?_ | refine And.intro (by omega) ?_ | exact trivial)
        refine CallVC.intro (c_less ((2 * r + 1) % W256) m hD hm) ⟨rfl, rfl, trivial⟩ rfl rfl ?_
        simp only [↓PX, SX, SYX, EY, simprocAttr, TYX, iL_len, iL_one, iL_mk, iL_app1, btL_len]
        exact ⟨(j, (2 * r + 1) % m), ⟨by show j ≤ 512; omega, rs⟩, by show j < j + 1; omega, (St.le_of id (by simp [-List.getD_eq_getElem?_getD, SYX, iv, Tle, AVle, A0le, Mem.get, pk, down1 (by omega : j < 512)]) (by simp [-List.getD_eq_getElem?_getD, SYX, Mle, Ele, Mem.get, pk, down1 (by omega : j < 512)]) (by simp [SYX]) (by simp [SYX]))⟩
    · have hb : bt N j = 0 := by have := bt_lt N j; omega
      have eb : (((bt N j : Nat) : Int) == 1) = false := by rw [hb]; rfl
      have rs : (2 * r) % m = N / 2 ^ j % m := by
        have := rem_bit (m := m) (N := N) (j := j) hr
        rw [hb] at this
        exact this
      have pk : (r / 57896044618658097711785492504343953926634992332820282019728792003956564819968 = 0 ∧ 2 * r % W256 < m → 2 * r % W256 = (2 * r) % m) ∧ (¬ (r / 57896044618658097711785492504343953926634992332820282019728792003956564819968 = 0 ∧ 2 * r % W256 < m) → (2 * r % W256 + W256 - m) % W256 = (2 * r) % m) := rem_pick (q := 0) hm hrm (by decide)
      have hD : 2 * r % W256 < W256 := Nat.mod_lt _ (by decide)
      by_cases c1 : r / 57896044618658097711785492504343953926634992332820282019728792003956564819968 = 0
      · have e1 : (r / 57896044618658097711785492504343953926634992332820282019728792003956564819968 == 1) = false := by rw [c1]; rfl
        by_cases c2 : 2 * r % W256 < m
        · have e2 : decide (2 * r % W256 < m) = true := decide_eq_true c2
          have pk := pk.1 ⟨c1, c2⟩
          simp only [↓PX, SX, SYX, EY, simprocAttr, TYX, iL_len, iL_one, iL_mk, iL_app1, btL_len, e1, eb]
          repeat (first | refine DrawVC.intro (by kernel_rfl) ?_ | refine And.intro (by omega) ?_ | exact trivial)
          refine CallVC.intro (c_lower (2 * r % W256) m hD hm) ⟨rfl, rfl, trivial⟩ rfl rfl ?_
          simp only [↓PX, SX, SYX, EY, simprocAttr, TYX, iL_len, iL_one, iL_mk, iL_app1, btL_len, e2]
          exact ⟨(j, (2 * r) % m), ⟨by show j ≤ 512; omega, rs⟩, by show j < j + 1; omega, (St.le_of id (by simp [-List.getD_eq_getElem?_getD, SYX, iv, Tle, AVle, A0le, Mem.get, pk, down1 (by omega : j < 512)]) (by simp [-List.getD_eq_getElem?_getD, SYX, Mle, Ele, Mem.get, pk, down1 (by omega : j < 512)]) (by simp [SYX]) (by simp [SYX]))⟩
        · have e2 : decide (2 * r % W256 < m) = false := decide_eq_false c2
          have pk := pk.2 (fun c3 => c2 c3.2)
          simp only [↓PX, SX, SYX, EY, simprocAttr, TYX, iL_len, iL_one, iL_mk, iL_app1, btL_len, e1, eb]
          repeat (first | refine DrawVC.intro (by kernel_rfl) ?_ | refine And.intro (by omega) ?_ | exact trivial)
          refine CallVC.intro (c_lower (2 * r % W256) m hD hm) ⟨rfl, rfl, trivial⟩ rfl rfl ?_
          simp only [↓PX, SX, SYX, EY, simprocAttr, TYX, iL_len, iL_one, iL_mk, iL_app1, btL_len, e2]
          refine CallVC.intro (c_less (2 * r % W256) m hD hm) ⟨rfl, rfl, trivial⟩ rfl rfl ?_
          simp only [↓PX, SX, SYX, EY, simprocAttr, TYX, iL_len, iL_one, iL_mk, iL_app1, btL_len]
          exact ⟨(j, (2 * r) % m), ⟨by show j ≤ 512; omega, rs⟩, by show j < j + 1; omega, (St.le_of id (by simp [-List.getD_eq_getElem?_getD, SYX, iv, Tle, AVle, A0le, Mem.get, pk, down1 (by omega : j < 512)]) (by simp [-List.getD_eq_getElem?_getD, SYX, Mle, Ele, Mem.get, pk, down1 (by omega : j < 512)]) (by simp [SYX]) (by simp [SYX]))⟩
      · have e1 : (r / 57896044618658097711785492504343953926634992332820282019728792003956564819968 == 1) = true := by
          have : r / 57896044618658097711785492504343953926634992332820282019728792003956564819968 = 1 := by unfold W256 at hrW; omega
          rw [this]; rfl
        have pk := pk.2 (fun c3 => c1 c3.1)
        simp only [↓PX, SX, SYX, EY, simprocAttr, TYX, iL_len, iL_one, iL_mk, iL_app1, btL_len, e1, eb]
        repeat (first | refine DrawVC.intro (by kernel_rfl) ?_ | refine And.intro (by omega) ?_ | exact trivial)
        refine CallVC.intro (c_less (2 * r % W256) m hD hm) ⟨rfl, rfl, trivial⟩ rfl rfl ?_
        simp only [↓PX, SX, SYX, EY, simprocAttr, TYX, iL_len, iL_one, iL_mk, iL_app1, btL_len]
        exact ⟨(j, (2 * r) % m), ⟨by show j ≤ 512; omega, rs⟩, by show j < j + 1; omega, (St.le_of id (by simp [-List.getD_eq_getElem?_getD, SYX, iv, Tle, AVle, A0le, Mem.get, pk, down1 (by omega : j < 512)]) (by simp [-List.getD_eq_getElem?_getD, SYX, Mle, Ele, Mem.get, pk, down1 (by omega : j < 512)]) (by simp [SYX]) (by simp [SYX]))⟩
  have h1 : i = 0 := by
    have : ¬ (0 : Int) ≤ (i : Int) - 1 := by simpa using h1
    omega
  subst h1
  clear h1
  simp only [↓PX, SX, SYX, EY, simprocAttr, TYX, iL_len, iL_one, iL_mk, iL_app1, btL_len]
  rw [hr, Nat.pow_zero, Nat.div_one]
end Go.Sx
