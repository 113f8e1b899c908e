/-
  Compress, of lookup and of the reference. No conditions.
-/
import Derived.Test.YtmjhaopkhceegaaZLkP
namespace Go.Sx
open Go.Proofs Go.Num
-- SY
-- TY: TYX, UX, IOX
set_option maxRecDepth 100000
set_option linter.unusedSimpArgs false
set_option pp.deepTerms true
set_option pp.maxSteps 100000
/-- Several values as one. -/
def cpr (s : Int) (θ : Nat) (l : List Nat) : Nat := l.foldl (fun o v => (o * θ % md s + v) % md s) 0
theorem cpr_snoc {s : Int} {θ v : Nat} {l : List Nat} : cpr s θ (l ++ [v]) = (cpr s θ l * θ % md s + v) % md s := by simp [cpr]
theorem cpr_w (s : Int) (θ : Nat) (l : List Nat) : cpr s θ l < W256 := by
  rcases List.eq_nil_or_concat l with rfl | ⟨l', v, rfl⟩
  · exact (by decide : (0 : Nat) < W256)
  · rw [List.concat_eq_append, cpr_snoc]; exact md_w s _
theorem u_Compress (s : Int) (θ : Nat) (l : List Nat) (hθ : θ < W256) (hl : ∀ x ∈ l, x < W256) (hb : l.length * 32 ≤ 140737488351232) :
    Contract Try.prog 15 [.val (.int .i64 s), .val (EN θ), .sl l.length 4 (LC eC l)] [.val (EN (cpr s θ l))] := by
  refine contract_of (N := _) (vars := _) (c := bodyOf Try.f15) Try.func15 (body_eq rfl) rfl rfl (by rfl) mixed _ _ trivial 1000 ?_
  simp only [bodyOf, Try.f15, Option.getD_some, argA, argE, List.length_cons, List.length_nil, Nat.reduceAdd, Nat.reduceSub, List.replicate, List.cons_append, List.nil_append]
  simp only [↓PX, SX, SYX, EY, simprocAttr, TYX, UX, IOX]
  refine loop_hav ?_
  simp only [↓PX, SX, SYX, EY, simprocAttr, TYX, UX, IOX]
  refine loop_go mixed (by trivial) (γ := Nat) (fun i => i ≤ l.length) (fun i => l.length - i) (fun i => [(12, iv i)]) (fun i => [(11, .box (eC (cpr s θ (l.take i))))]) 0 (Nat.zero_le _) (St.le_of id (by simp [-List.getD_eq_getElem?_getD, SYX, iv, Tle, AVle, A0le, Mem.get, cpr, eC, L0_0, L1_0, L2_0, L3_0]) (by simp [-List.getD_eq_getElem?_getD, SYX, Mle, Ele, Hle, Tle, AVle, A0le, Mem.get, cpr, eC, L0_0, L1_0, L2_0, L3_0]) (by simp [SYX]) (by simp [SYX])) ?_
  intro i hi
  have hw1 := cpr_w s θ (l.take i)
  by_cases h0 : i < l.length
  · have b0 : decide ((i : Int) < (l.length : Int)) = true := decide_eq_true (by omega)
    have ld := eL_ld (l := l) (j := i) h0
    have w5 : IntKind.i64.wrap ((i : Int) + 1) = ((i + 1 : Nat) : Int) := wS (by omega)
    have hv : l.getD i 0 < W256 := by
      rw [List.getD_eq_getElem?_getD, List.getElem?_eq_getElem h0]
      exact hl _ (List.getElem_mem _)
    have es := cpr_snoc (s := s) (θ := θ) (v := l.getD i 0) (l := l.take i)
    rw [← take_snoc h0] at es
    have cm := u_Mul s (cpr s θ (l.take i)) θ hw1 hθ
    have ca := u_Add s _ (l.getD i 0) (md_w s (cpr s θ (l.take i) * θ)) hv
    rw [← es] at ca
    repeat (first | refine DrawVC.intro (by kernel_rfl) ?_ | refine And.intro (by omega) ?_ | exact trivial | simp only [↓PX, SX, SYX, EY, simprocAttr, TYX, UX, IOX, b0, ld, w5])
    refine CallVC.intro (cm) ⟨rfl, rfl, rfl, trivial⟩ rfl rfl ?_
    simp only [↓PX, SX, SYX, EY, simprocAttr, TYX, UX, IOX]
    repeat (first | refine DrawVC.intro (by kernel_rfl) ?_ | refine And.intro (by omega) ?_ | exact trivial | simp only [↓PX, SX, SYX, EY, simprocAttr, TYX, UX, IOX, ld])
    refine CallVC.intro (ca) ⟨rfl, rfl, rfl, trivial⟩ rfl rfl ?_
    simp only [↓PX, SX, SYX, EY, simprocAttr, TYX, UX, IOX, w5]
    exact ⟨i + 1, h0, by omega, (St.le_of id (by simp [-List.getD_eq_getElem?_getD, SYX, iv, Tle, AVle, A0le, Mem.get]) (by simp [-List.getD_eq_getElem?_getD, SYX, Mle, Ele, Hle, Tle, AVle, A0le, Mem.get]) (by simp [SYX]) (by simp [SYX]))⟩
  · have b0 : decide ((i : Int) < (l.length : Int)) = false := decide_eq_false (by omega)
    have hin : i = l.length := by omega
    subst hin
    have ef : List.take l.length l = l := List.take_length
    repeat (first | refine DrawVC.intro (by kernel_rfl) ?_ | refine And.intro (by omega) ?_ | exact trivial | simp only [↓PX, SX, SYX, EY, simprocAttr, TYX, UX, IOX, b0, ef])
end Go.Sx
