/-
  Both Lagranges are one. No conditions.
-/
import Derived.Test.YtndmafefpiigoaaZDof
namespace Go.Sx
open Go.Proofs Go.Num
set_option maxRecDepth 100000
set_option linter.unusedSimpArgs false
section
variable {s k : Int}
theorem lgP_ev (h : ptO s k = true) (i x : Nat) : ∀ j, j ≤ 2 ^ k.toNat → κ (md s) (lgP s k i x j) = evk (κ (md s) x) (rN s (ptL s k) i j)
  | 0, _ => by
    show κ (md s) 1 = κ (md s) 1 + κ (md s) x * 0
    grind
  | j + 1, hj => by
    have ih := lgP_ev h i x j (by omega)
    unfold lgP rN
    by_cases hji : j = i
    · rw [if_pos hji, if_pos hji]; exact ih
    · rw [if_neg hji, if_neg hji, κ_mod, κ_mul, κ_sb, ih, evk_tp, evk_pMul, fac_ev, ptL_at h (by omega)]
/-- At its own point: n p^(n-1). -/
theorem rN_own (h : ptO s k = true) {i : Nat} (hi : i < 2 ^ k.toNat) : evk (κ (md s) (pt s k i)) (rN s (ptL s k) i (2 ^ k.toNat)) = κ (md s) (2 ^ k.toNat) * κ (md s) (pt s k i) ^ (2 ^ k.toNat - 1) := by
  have P := pr_of (ptO_iff.1 h).1
  have hf := rN_fac h hi
  have hpow := pt_pow h i
  have hlp := ptL_len h
  have hl := rN_len P (ptL s k) i (2 ^ k.toNat)
  rw [if_pos hi] at hl
  obtain ⟨n, hn⟩ : ∃ n, 2 ^ k.toNat = n + 1 := ⟨2 ^ k.toNat - 1, by have := Nat.two_pow_pos k.toNat; omega⟩
  rw [hn] at hf hpow hl ⊢
  have ha : κ (md s) ((md s - pt s k i % md s) % md s) = - κ (md s) (pt s k i) := by rw [κ_mod, κ_neg]
  have hg := geo_fac (a := (md s - pt s k i % md s) % md s) (p := pt s k i) (n := n) ha hpow
  have hd : ∀ t, co (md s) (rN s (ptL s k) i (n + 1)) t - co (md s) (geo (pt s k i) (n + 1)) t = 0 := by
    refine ml_inj P (l := fac s (pt s k i)) (n := 1) rfl ?_ (n + 1) (fun t ht => ?_) (fun t _ => ?_)
    · unfold fac
      rw [co_s, co_0, κ_one]; exact f_one_ne P
    · rw [co_out (by omega), co_out (by rw [geo_len]; omega)]; grind
    · rw [ml_sub, hf t]
      have := hg t
      unfold fac
      rw [this]; grind
  have he : evk (κ (md s) (pt s k i)) (rN s (ptL s k) i (n + 1)) = evk (κ (md s) (pt s k i)) (geo (pt s k i) (n + 1)) := evk_congr fun t => by
    have := hd t
    grind
  rw [he, geo_self]
  rfl
/-- Times its factor: x^n - 1. -/
theorem rN_times (h : ptO s k = true) {i : Nat} (hi : i < 2 ^ k.toNat) (x : Fin (md s)) : (x - κ (md s) (pt s k i)) * evk x (rN s (ptL s k) i (2 ^ k.toNat)) = x ^ 2 ^ k.toNat - 1 := by
  have P := pr_of (ptO_iff.1 h).1
  have hf := rN_fac h hi
  have hpow := pt_pow h i
  obtain ⟨n, hn⟩ : ∃ n, 2 ^ k.toNat = n + 1 := ⟨2 ^ k.toNat - 1, by have := Nat.two_pow_pos k.toNat; omega⟩
  rw [hn] at hf hpow ⊢
  have ha : κ (md s) ((md s - pt s k i % md s) % md s) = - κ (md s) (pt s k i) := by rw [κ_mod, κ_neg]
  have hg := geo_fac (a := (md s - pt s k i % md s) % md s) (p := pt s k i) (n := n) ha hpow
  have he : evk x (pMul (fac s (pt s k i)) (rN s (ptL s k) i (n + 1))) = evk x (pMul (fac s (pt s k i)) (geo (pt s k i) (n + 1))) := evk_congr fun t => by
    rw [co_pMul, co_pMul, hf t]
    exact (hg t).symm
  rw [evk_pMul, evk_pMul, fac_ev] at he
  rw [he]
  have key : ∀ M, (x - κ (md s) (pt s k i)) * evk x (geo (pt s k i) M) = x ^ M - κ (md s) (pt s k i) ^ M := by
    intro M
    induction M with
    | zero => simp only [geo, evk]; rw [f_pow_zero, f_pow_zero]; grind
    | succ M ih =>
      simp only [geo, evk]
      rw [κ_pow, f_pow_succ, f_pow_succ]
      grind
  rw [key, hpow]
theorem two_ne (h : kn s = true) : κ (md s) 2 ≠ 0 := by
  cases srt s with
  | no hk => rw [h] at hk; cases hk
  | yes _ _ _ _ _ _ _ _ h2 => rw [Ne, κ_eq0, Nat.mod_eq_of_lt h2]; decide
theorem n_ne (h : ptO s k = true) : κ (md s) (2 ^ k.toNat) ≠ 0 := by
  have hk := (ptO_iff.1 h).1
  rw [κ_pow]
  exact f_pow_ne (pr_of hk) (two_ne hk) _
theorem lg_eq (i : Int) (x : Nat) : lgU s k i x = lgV s k i x := by
  unfold lgU lgV
  by_cases hin : inL s k i = true
  · rw [if_pos hin, if_pos hin]
    simp only [inL, Bool.and_eq_true, decide_eq_true_eq] at hin
    obtain ⟨⟨h, h0⟩, h1⟩ := hin
    have P := pr_of (ptO_iff.1 h).1
    have hi : i.toNat < 2 ^ k.toNat := by omega
    have hp0 := pt_ne h i.toNat
    have hn0 := n_ne h
    have hpow := pt_pow h i.toNat
    have hpos := Nat.two_pow_pos k.toNat
    have hD : κ (md s) (lgD s k i x) = κ (md s) (2 ^ k.toNat) * (κ (md s) x - κ (md s) (pt s k i.toNat)) := by
      unfold lgD iN
      rw [κ_mod, κ_mul, κ_sb, if_pos (by omega), κ_mod]; rfl
    have hDl : lgD s k i x < md s := md_mod _ _
    have hup := lgP_ev h i.toNat x (2 ^ k.toNat) (Nat.le_refl _)
    have hdn := lgP_ev h i.toNat (pt s k i.toNat) (2 ^ k.toNat) (Nat.le_refl _)
    rw [rN_own h hi] at hdn
    have ht := rN_times h hi (κ (md s) x)
    rw [← hup] at ht
    obtain ⟨n, hn⟩ : ∃ n, 2 ^ k.toNat = n + 1 := ⟨2 ^ k.toNat - 1, by omega⟩
    rw [hn] at hpow hn0 hD hup hdn ht ⊢
    have hq : κ (md s) (pt s k i.toNat) ^ n ≠ 0 := f_pow_ne P hp0 n
    rw [f_pow_succ] at hpow
    have hdn0 : κ (md s) (lgP s k i.toNat (pt s k i.toNat) (n + 1)) ≠ 0 := by
      rw [hdn]
      intro e
      rcases f_nzd P e with e | e
      · exact hn0 e
      · exact hq e
    have u2 := ι_mul P hdn0
    have goalk : κ (md s) (if lgD s k i x = 0 then 1 else pt s k i.toNat * vaN s k x % md s * inv s (lgD s k i x) % md s) = κ (md s) (lgP s k i.toNat x (n + 1) * inv s (lgP s k i.toNat (pt s k i.toNat) (n + 1)) % md s) := by
      rw [κ_mod, κ_mul, κ_inv]
      by_cases hz : lgD s k i x = 0
      · rw [if_pos hz, κ_one]
        rw [hz, κ_zero] at hD
        have hx : κ (md s) x = κ (md s) (pt s k i.toNat) := by
          have := (f_nzd P hD.symm).resolve_left hn0
          grind
        have : κ (md s) (lgP s k i.toNat x (n + 1)) = κ (md s) (lgP s k i.toNat (pt s k i.toNat) (n + 1)) := by
          have e1 := lgP_ev h i.toNat x (n + 1) (by omega)
          have e2 := lgP_ev h i.toNat (pt s k i.toNat) (n + 1) (by omega)
          rw [e1, e2, hx]
        rw [this, u2]
      · rw [if_neg hz]
        have hD0 : κ (md s) (lgD s k i x) ≠ 0 := by rw [Ne, κ_eq0, Nat.mod_eq_of_lt hDl]; exact hz
        have u1 := ι_mul P hD0
        have hv : κ (md s) (vaN s k x) = κ (md s) x ^ (n + 1) - 1 := by
          unfold vaN
          rw [if_pos h, κ_sb, κ_mod, κ_pow, κ_one, hn]
        rw [κ_mod, κ_mul, κ_mod, κ_mul, κ_inv, hv, ← ht]
        generalize κ (md s) (lgP s k i.toNat x (n + 1)) = up at *
        generalize κ (md s) (lgP s k i.toNat (pt s k i.toNat) (n + 1)) = dn at *
        generalize κ (md s) (lgD s k i x) = D at *
        generalize κ (md s) (pt s k i.toNat) = p at *
        generalize κ (md s) x = X at *
        generalize κ (md s) (n + 1) = nn at *
        generalize ι dn = a at *
        generalize ι D = b at *
        -- p (X-p) up b = up a
        have e1 : dn * p = nn := by
          have : nn * p ^ n * p = nn * (p ^ n * p) := by grind
          rw [hdn, Nat.add_sub_cancel, this, hpow]; grind
        have e2 : p * (X - p) * b * dn = 1 := by
          have : p * (X - p) * b * dn = D * b := by rw [hD, ← e1]; grind
          rw [this, u1]
        have e3 : p * (X - p) * b = a := by
          have : p * (X - p) * b = p * (X - p) * b * (dn * a) := by rw [u2]; grind
          rw [this]
          have : p * (X - p) * b * (dn * a) = p * (X - p) * b * dn * a := by grind
          rw [this, e2]; grind
        rw [← e3]; grind
    rw [κ_inj, Nat.mod_mod] at goalk
    rw [← goalk]
    split
    · exact (Nat.mod_eq_of_lt P.1).symm
    · rw [Nat.mod_mod]
  · rw [if_neg hin, if_neg hin]
end
end Go.Sx
