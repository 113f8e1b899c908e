/-
  Zeros of poly and of the reference. No conditions.
-/
import Derived.Test.YtndmafefpiigoaaZPpc
namespace Go.Sx
open Go.Proofs Go.Num
-- SY
-- TY: TYX, UX
set_option maxRecDepth 100000
set_option linter.unusedSimpArgs false
set_option pp.deepTerms true
set_option pp.maxSteps 100000
/-- The factor that is nothing at x. -/
def fac (s : Int) (x : Nat) : List Nat := [(md s - x % md s) % md s, 1]
theorem fac_w (s : Int) (x : Nat) : ∀ y ∈ fac s x, y < W256 := by
  intro y hy
  simp only [fac, List.mem_cons, List.not_mem_nil, or_false] at hy
  rcases hy with rfl | rfl
  · exact md_w s _
  · decide
theorem fac_len {s : Int} {x : Nat} : (fac s x).length = 2 := rfl
theorem fac_LC {s : Int} {x : Nat} : LC eC (fac s x) = [u64 (L0 ((md s - x % md s) % md s)), u64 (L1 ((md s - x % md s) % md s)), u64 (L2 ((md s - x % md s) % md s)), u64 (L3 ((md s - x % md s) % md s)), u64 (L0 1), u64 (L1 1), u64 (L2 1), u64 (L3 1)] := rfl
/-- The product of the first i factors. -/
def zer (s : Int) (xs : List Nat) : Nat → List Nat
  | 0 => [1]
  | i + 1 => tp (md s) (pMul (zer s xs i) (fac s (xs.getD i 0)))
theorem zer_nrm {s : Int} (P : PR (md s)) (xs : List Nat) : ∀ i, Nrm (md s) (zer s xs i)
  | 0 => ⟨fun x hx => by simp only [zer, List.mem_singleton] at hx; rw [hx]; exact P.1, .inr (by simp [zer])⟩
  | i + 1 => tp_nrm s _
theorem fac_nrm {s : Int} (P : PR (md s)) (x : Nat) : Nrm (md s) (fac s x) := by
  refine ⟨fun y hy => ?_, .inr (by simp [fac])⟩
  simp only [fac, List.mem_cons, List.not_mem_nil, or_false] at hy
  rcases hy with rfl | rfl
  · exact Nat.mod_lt _ (md_pos s)
  · exact P.1
theorem zer_len {s : Int} (P : PR (md s)) (xs : List Nat) : ∀ i, (zer s xs i).length = i + 1
  | 0 => rfl
  | i + 1 => by
    have h1 := zer_len P xs i
    show (tp (md s) (pMul (zer s xs i) (fac s (xs.getD i 0)))).length = _
    rw [← mulR_tp P (zer_nrm P xs i) (fac_nrm P _)]
    unfold mulR
    rw [if_neg (by rw [h1]; simp [fac]), tab_len, h1]
    simp [fac]
theorem zer_take {s : Int} (P : PR (md s)) (xs : List Nat) (i : Nat) : List.take ((i + 1) * 4) (LC eC (zer s xs i)) = LC eC (zer s xs i) := List.take_of_length_le (by rw [LC_len eC_len, zer_len P]; omega)
/-- The answer. -/
def zL (s : Int) (xs : List Nat) : List Nat := if kn s && decide (xs.length < 1024) then zer s xs xs.length else []
def zE (s : Int) (xs : List Nat) : Int := if kn s then (if xs.length < 1024 then 0 else 70) else 20
theorem u_Zeros (s : Int) (xs : List Nat) (hx : ∀ y ∈ xs, y < W256) (hl : xs.length * 32 ≤ 140737488355328) :
    Contract Try.prog 41 [.val (.int .i64 s), .sl xs.length 4 (LC eC xs)] [.row 25 4 (zL s xs).length (LC eC (zL s xs)), .val (.int .i64 (zE s xs))] := by
  cases hk : kn s with
  | false =>
    have he : eS s = 20 := by simp [eS, hk]
    have e1 : zL s xs = [] := by simp [zL, hk]
    have e2 : zE s xs = 20 := by simp [zE, hk]
    rw [e1, e2]
    refine contract_of (N := _) (vars := _) (c := bodyOf Try.f41) Try.func41 (body_eq rfl) rfl rfl (by rfl) mixed _ _ trivial 1000 ?_
    simp only [bodyOf, Try.f41, Option.getD_some, argA, argE, List.length_cons, List.length_nil, Nat.reduceAdd, Nat.reduceSub, List.replicate, List.cons_append, List.nil_append]
    simp only [↓PX, SX, SYX, EY, simprocAttr, TYX, UX]
    refine CallVC.intro (u_known s) ⟨rfl, trivial⟩ rfl rfl ?_
    simp only [↓PX, SX, SYX, EY, simprocAttr, TYX, UX, he]
  | true =>
    have he : eS s = 0 := by simp [eS, hk]
    have P := pr_of hk
    by_cases h : xs.length < 1024
    · have d : decide ((1024 : Int) ≤ (xs.length : Int)) = false := by simp; omega
      have e1 : zL s xs = zer s xs xs.length := by simp [zL, hk, h]
      have e2 : zE s xs = 0 := by simp [zE, hk, h]
      rw [e1, e2]
      refine contract_of (N := _) (vars := _) (c := bodyOf Try.f41) Try.func41 (body_eq rfl) rfl rfl (by rfl) mixed _ _ trivial 1000 ?_
      simp only [bodyOf, Try.f41, Option.getD_some, argA, argE, List.length_cons, List.length_nil, Nat.reduceAdd, Nat.reduceSub, List.replicate, List.cons_append, List.nil_append]
      simp only [↓PX, SX, SYX, EY, simprocAttr, TYX, UX]
      refine CallVC.intro (u_known s) ⟨rfl, trivial⟩ rfl rfl ?_
      simp only [↓PX, SX, SYX, EY, simprocAttr, TYX, UX, he, d]
      refine loop_hav ?_
      simp only [↓PX, SX, SYX, EY, simprocAttr, TYX, UX]
      refine loop_go mixed (by trivial) (γ := Nat) (fun i => i ≤ xs.length) (fun i => xs.length - i) (fun i => [(22, iv i), (7, .o (.r 46 (i + 1))), (19, .o .any)]) (fun i => [(46, .row 25 4 (i + 1) (LC eC (zer s xs i)))]) 0 (by omega)
        (St.le_of id (by simp [-List.getD_eq_getElem?_getD, SYX, iv, Tle, AVle, A0le, Mem.get, zer, LC, eC, List.flatMap]) (by simp [-List.getD_eq_getElem?_getD, SYX, Mle, Ele, Hle, Tle, AVle, A0le, Mem.get, zer, LC, eC, List.flatMap]) (by simp [SYX]) (by simp [SYX])) ?_
      intro i hi
      simp only [↓PX, SX, SYX, EY, simprocAttr, TYX, UX]
      refine cond_split (fun h0 => ?_) (fun h0 => ?_)
      · have h0 : i < xs.length := by simpa using h0
        have hy := getD_lt hx h0
        simp only [↓PX, SX, SYX, EY, simprocAttr, TYX, UX, eL_ld h0]
        repeat (first | refine DrawVC.intro (by kernel_rfl) ?_ | refine And.intro (by omega) ?_ | exact trivial)
        have hz := zer_len P xs i
        have cm := u_multiply s (zer s xs i) (fac s (xs.getD i 0)) (zer_nrm P xs i).w (fac_w s _) (by rw [hz]; simp [fac]; omega)
        rw [mulR_tp P (zer_nrm P xs i) (fac_nrm P _), show tp (md s) (pMul (zer s xs i) (fac s (xs.getD i 0))) = zer s xs (i + 1) from rfl, zer_len P xs (i + 1), hz] at cm
        refine CallVC.intro (u_Neg s _ hy) ⟨rfl, rfl, trivial⟩ rfl rfl ?_
        simp only [↓PX, SX, SYX, EY, simprocAttr, TYX, UX]
        refine CallVC.intro (cm) ⟨rfl, (by simp only [argMatch, SX, SYX, EY, simprocAttr, and_self, List.length_append, List.length_map, List.length_set, TYX, UX, hz, fac_len, fac_LC]), (by simp only [argMatch, SX, SYX, EY, simprocAttr, and_self, List.length_append, List.length_map, List.length_set, TYX, UX, hz, fac_len, fac_LC]), trivial⟩ rfl rfl ?_
        simp only [↓PX, SX, SYX, EY, simprocAttr, TYX, UX, hz, fac_len, fac_LC]
        exact ⟨i + 1, by omega, by omega, (St.le_of (ren [(46, 114)]) (by simp [-List.getD_eq_getElem?_getD, SYX, iv, ren, Tle, AVle, A0le, Mem.get, wS (j := i) (by omega)]) (by simp [-List.getD_eq_getElem?_getD, SYX, ren, Mle, Ele, Mem.get, wS (j := i) (by omega)]) (by simp [SYX, ren]) (by simp [SYX]))⟩
      · have h0 : i = xs.length := by
          have : xs.length ≤ i := by simpa using h0
          omega
        subst h0
        rw [zer_len P]
        simp only [↓PX, SX, SYX, EY, simprocAttr, TYX, UX]
    · have d : decide ((1024 : Int) ≤ (xs.length : Int)) = true := by simp; omega
      have e1 : zL s xs = [] := by simp [zL, h]
      have e2 : zE s xs = 70 := by simp [zE, hk, h]
      rw [e1, e2]
      refine contract_of (N := _) (vars := _) (c := bodyOf Try.f41) Try.func41 (body_eq rfl) rfl rfl (by rfl) mixed _ _ trivial 1000 ?_
      simp only [bodyOf, Try.f41, Option.getD_some, argA, argE, List.length_cons, List.length_nil, Nat.reduceAdd, Nat.reduceSub, List.replicate, List.cons_append, List.nil_append]
      simp only [↓PX, SX, SYX, EY, simprocAttr, TYX, UX]
      refine CallVC.intro (u_known s) ⟨rfl, trivial⟩ rfl rfl ?_
      simp only [↓PX, SX, SYX, EY, simprocAttr, TYX, UX, he, d]
theorem v_Zeros (s : Int) (xs : List Nat) (hx : ∀ y ∈ xs, y < W256) (hl : xs.length * 32 ≤ 140737488355328) :
    Contract Try.prog 42 [.val (.int .i64 s), .sl xs.length 4 (LC eC xs)] [.part (zL s xs).length 4 (LC eC (zL s xs)), .val (.int .i64 (zE s xs))] := by
  cases hk : kn s with
  | false =>
    have e1 : zL s xs = [] := by simp [zL, hk]
    have e2 : zE s xs = 20 := by simp [zE, hk]
    rw [e1, e2]
    refine contract_of (N := _) (vars := _) (c := bodyOf Try.f42) Try.func42 (body_eq rfl) rfl rfl (by rfl) mixed _ _ trivial 1000 ?_
    simp only [bodyOf, Try.f42, Option.getD_some, argA, argE, List.length_cons, List.length_nil, Nat.reduceAdd, Nat.reduceSub, List.replicate, List.cons_append, List.nil_append]
    simp only [↓PX, SX, SYX, EY, simprocAttr, TYX, UX]
    refine CallVC.intro (v_known s) ⟨rfl, trivial⟩ rfl rfl ?_
    simp only [↓PX, SX, SYX, EY, simprocAttr, TYX, UX, hk]
  | true =>
    have P := pr_of hk
    by_cases h : xs.length < 1024
    · have d : decide ((1023 : Int) < (xs.length : Int)) = false := by simp; omega
      have e1 : zL s xs = zer s xs xs.length := by simp [zL, hk, h]
      have e2 : zE s xs = 0 := by simp [zE, hk, h]
      rw [e1, e2]
      refine contract_of (N := _) (vars := _) (c := bodyOf Try.f42) Try.func42 (body_eq rfl) rfl rfl (by rfl) mixed _ _ trivial 1000 ?_
      simp only [bodyOf, Try.f42, Option.getD_some, argA, argE, List.length_cons, List.length_nil, Nat.reduceAdd, Nat.reduceSub, List.replicate, List.cons_append, List.nil_append]
      simp only [↓PX, SX, SYX, EY, simprocAttr, TYX, UX]
      refine CallVC.intro (v_known s) ⟨rfl, trivial⟩ rfl rfl ?_
      simp only [↓PX, SX, SYX, EY, simprocAttr, TYX, UX, hk, d]
      refine loop_hav ?_
      simp only [↓PX, SX, SYX, EY, simprocAttr, TYX, UX]
      refine loop_go mixed (by trivial) (γ := Nat) (fun i => i ≤ xs.length) (fun i => xs.length - i) (fun i => [(7, iv i), (6, .o (match i with | 0 => .r 38 1 | j + 1 => .s 38 0 (j + 1 + 1))), (15, .o .any)]) (fun i => [(38, match i with | 0 => .row 25 4 1 (LC eC (zer s xs 0)) | j + 1 => .box (LC eC (zer s xs (j + 1))))]) 0 (by omega)
        (St.le_of id (by simp [-List.getD_eq_getElem?_getD, SYX, iv, Tle, AVle, A0le, Mem.get, zer, LC, eC, List.flatMap]) (by simp [-List.getD_eq_getElem?_getD, SYX, Mle, Ele, Hle, Tle, AVle, A0le, Mem.get, zer, LC, eC, List.flatMap]) (by simp [SYX]) (by simp [SYX])) ?_
      intro i hi
      cases i with
      | zero =>
        simp only [↓PX, SX, SYX, EY, simprocAttr, TYX, UX]
        refine cond_split (fun h0 => ?_) (fun h0 => ?_)
        · have h0 : 0 < xs.length := by
            have := of_decide_eq_true h0
            omega
          have hy := getD_lt hx h0
          have e0 : Value.agg (List.take 4 (LC eC xs)).toArray = EN (xs.getD 0 0) := by simpa using eL_ld (j := 0) h0
          simp only [↓PX, SX, SYX, EY, simprocAttr, TYX, UX, e0]
          repeat (first | refine DrawVC.intro (by kernel_rfl) ?_ | refine And.intro (by omega) ?_ | exact trivial)
          have hz := zer_len P xs 0
          have cm := v_Times s (zer s xs 0) (fac s (xs.getD 0 0)) (zer_nrm P xs 0).w (fac_w s _) (by rw [hz]; simp [fac])
          rw [show tp (md s) (pMul (zer s xs 0) (fac s (xs.getD 0 0))) = zer s xs (0 + 1) from rfl, zer_len P xs (0 + 1), hz] at cm
          refine CallVC.intro (v_Neg s _ hy) ⟨rfl, rfl, trivial⟩ rfl rfl ?_
          simp only [↓PX, SX, SYX, EY, simprocAttr, TYX, UX]
          refine CallVC.intro (cm) ⟨rfl, (by simp only [argMatch, SX, SYX, EY, simprocAttr, and_self, List.length_append, List.length_map, List.length_set, TYX, UX, hz, fac_len, fac_LC]), (by simp only [argMatch, SX, SYX, EY, simprocAttr, and_self, List.length_append, List.length_map, List.length_set, TYX, UX, hz, fac_len, fac_LC]), trivial⟩ rfl rfl ?_
          simp only [↓PX, SX, SYX, EY, simprocAttr, TYX, UX, hz, fac_len, fac_LC]
          exact ⟨0 + 1, by omega, by omega, (St.le_of (ren [(38, 106)]) (by simp [-List.getD_eq_getElem?_getD, SYX, iv, ren, Tle, AVle, A0le, Mem.get, Nat.zero_add]) (by simp [-List.getD_eq_getElem?_getD, SYX, ren, Mle, Ele, Mem.get, Nat.zero_add]) (by simp [SYX, ren]) (by simp [SYX]))⟩
        · have h0 : 0 = xs.length := by
            have := of_decide_eq_false h0
            omega
          rw [zer_len P, ← h0]
          simp only [↓PX, SX, SYX, EY, simprocAttr, TYX, UX]
          exact ⟨_, rfl⟩
      | succ i =>
        simp only [↓PX, SX, SYX, EY, simprocAttr, TYX, UX]
        refine cond_split (fun h0 => ?_) (fun h0 => ?_)
        · have h0 : i + 1 < xs.length := by
            have := of_decide_eq_true h0
            omega
          have hy := getD_lt hx h0
          simp only [↓PX, SX, SYX, EY, simprocAttr, TYX, UX, eL_ld h0]
          repeat (first | refine DrawVC.intro (by kernel_rfl) ?_ | refine And.intro (by omega) ?_ | exact trivial)
          have ht := zer_take P xs (i + 1)
          have hz := zer_len P xs (i + 1)
          have cm := v_Times s (zer s xs (i + 1)) (fac s (xs.getD (i + 1) 0)) (zer_nrm P xs (i + 1)).w (fac_w s _) (by rw [hz]; simp [fac]; omega)
          rw [show tp (md s) (pMul (zer s xs (i + 1)) (fac s (xs.getD (i + 1) 0))) = zer s xs (i + 1 + 1) from rfl, zer_len P xs (i + 1 + 1), hz] at cm
          refine CallVC.intro (v_Neg s _ hy) ⟨rfl, rfl, trivial⟩ rfl rfl ?_
          simp only [↓PX, SX, SYX, EY, simprocAttr, TYX, UX]
          refine CallVC.intro (cm) ⟨rfl, (by simp only [argMatch, SX, SYX, EY, simprocAttr, and_self, List.length_append, List.length_map, List.length_set, TYX, UX, hz, fac_len, fac_LC, ht, wS (j := i + 1) (by omega)]), (by simp only [argMatch, SX, SYX, EY, simprocAttr, and_self, List.length_append, List.length_map, List.length_set, TYX, UX, hz, fac_len, fac_LC, ht, wS (j := i + 1) (by omega)]), trivial⟩ rfl rfl ?_
          simp only [↓PX, SX, SYX, EY, simprocAttr, TYX, UX, hz, fac_len, fac_LC, ht, wS (j := i + 1) (by omega)]
          exact ⟨i + 1 + 1, by omega, by omega, (St.le_of (ren [(38, 106)]) (by simp [-List.getD_eq_getElem?_getD, SYX, iv, ren, Tle, AVle, A0le, Mem.get, Nat.add_assoc]) (by simp [-List.getD_eq_getElem?_getD, SYX, ren, Mle, Ele, Mem.get, Nat.add_assoc]) (by simp [SYX, ren]) (by simp [SYX]))⟩
        · have h0 : i + 1 = xs.length := by
            have := of_decide_eq_false h0
            omega
          rw [zer_len P, ← h0]
          have ht := zer_take P xs (i + 1)
          simp only [↓PX, SX, SYX, EY, simprocAttr, TYX, UX, ht, zer_len P xs (i + 1)]
    · have d : decide ((1023 : Int) < (xs.length : Int)) = true := by simp; omega
      have e1 : zL s xs = [] := by simp [zL, h]
      have e2 : zE s xs = 70 := by simp [zE, hk, h]
      rw [e1, e2]
      refine contract_of (N := _) (vars := _) (c := bodyOf Try.f42) Try.func42 (body_eq rfl) rfl rfl (by rfl) mixed _ _ trivial 1000 ?_
      simp only [bodyOf, Try.f42, Option.getD_some, argA, argE, List.length_cons, List.length_nil, Nat.reduceAdd, Nat.reduceSub, List.replicate, List.cons_append, List.nil_append]
      simp only [↓PX, SX, SYX, EY, simprocAttr, TYX, UX]
      refine CallVC.intro (v_known s) ⟨rfl, trivial⟩ rfl rfl ?_
      simp only [↓PX, SX, SYX, EY, simprocAttr, TYX, UX, hk, d]
end Go.Sx
