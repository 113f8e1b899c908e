/-
  Mul of poly and of the reference. No conditions.
-/
import Derived.Test.YtndmafefpiigoaaZPop
namespace Go.Sx
open Go.Proofs Go.Num
-- SY
-- TY: TYX, UX
set_option maxRecDepth 100000
set_option linter.unusedSimpArgs false
set_option pp.deepTerms true
set_option pp.maxSteps 100000
def okM (s : Int) (a b : List Nat) : Bool := kn s && decide ((tp (md s) a).length + (tp (md s) b).length ≤ 1024)
def eM (s : Int) (a b : List Nat) : Int := if kn s then (if (tp (md s) a).length + (tp (md s) b).length ≤ 1024 then 0 else 70) else 20
def pM (s : Int) (a b : List Nat) : List Nat := if okM s a b then tp (md s) (pMul (tp (md s) a) (tp (md s) b)) else []
theorem tpW (s : Int) (l : List Nat) : ∀ x ∈ tp (md s) l, x < W256 := (nrm_tp (md_pos s) l).w
theorem u_PMul (s : Int) (a b : List Nat) (ha : ∀ x ∈ a, x < W256) (hb : ∀ x ∈ b, x < W256) (hl : a.length * 32 ≤ 140737488355328) (hl2 : b.length * 32 ≤ 140737488355328) :
    Contract Try.prog 32 [.val (.int .i64 s), .sl a.length 4 (LC eC a), .sl b.length 4 (LC eC b)] [.row 25 4 (pM s a b).length (LC eC (pM s a b)), .val (.int .i64 (eM s a b))] := by
  cases srt s with
  | no hk he =>
    have e1 : pM s a b = [] := by simp [pM, okM, hk]
    have e2 : eM s a b = 20 := by simp [eM, hk]
    rw [e1, e2]
    refine contract_of (N := _) (vars := _) (c := bodyOf Try.f32) Try.func32 (body_eq rfl) rfl rfl (by rfl) mixed _ _ trivial 1000 ?_
    simp only [bodyOf, Try.f32, Option.getD_some, argA, argE, List.length_cons, List.length_nil, Nat.reduceAdd, Nat.reduceSub, List.replicate, List.cons_append, List.nil_append]
    simp only [↓PX, SX, SYX, EY, simprocAttr, TYX, UX]
    refine CallVC.intro (u_known s) ⟨rfl, trivial⟩ rfl rfl ?_
    simp only [↓PX, SX, SYX, EY, simprocAttr, TYX, UX, he]
  | yes hk he _ _ _ _ _ P =>
    have h1 := tp_len (md s) a
    have h2 := tp_len (md s) b
    have d : IntKind.i64.wrap (((tp (md s) a).length : Int) + ((tp (md s) b).length : Int)) = (((tp (md s) a).length + (tp (md s) b).length : Nat) : Int) := by rw [wI (by omega) (by omega)]; rfl
    by_cases h : (tp (md s) a).length + (tp (md s) b).length ≤ 1024
    · have e1 : pM s a b = mulR (md s) (tp (md s) a) (tp (md s) b) := by rw [mulR_tp P (nrm_tp (md_pos s) a) (nrm_tp (md_pos s) b)]; simp [pM, okM, hk, h]
      have e2 : eM s a b = 0 := by simp [eM, hk, h]
      have d2 : decide ((1024 : Int) < (((tp (md s) a).length + (tp (md s) b).length : Nat) : Int)) = false := by simp; omega
      rw [e1, e2]
      refine contract_of (N := _) (vars := _) (c := bodyOf Try.f32) Try.func32 (body_eq rfl) rfl rfl (by rfl) mixed _ _ trivial 1000 ?_
      simp only [bodyOf, Try.f32, Option.getD_some, argA, argE, List.length_cons, List.length_nil, Nat.reduceAdd, Nat.reduceSub, List.replicate, List.cons_append, List.nil_append]
      simp only [↓PX, SX, SYX, EY, simprocAttr, TYX, UX]
      refine CallVC.intro (u_known s) ⟨rfl, trivial⟩ rfl rfl ?_
      simp only [↓PX, SX, SYX, EY, simprocAttr, TYX, UX, he]
      repeat (first | refine DrawVC.intro (by kernel_rfl) ?_ | refine And.intro (by omega) ?_ | exact trivial)
      refine CallVC.intro (u_Trim s a ha hl) ⟨rfl, (by simp only [argMatch, SX, SYX, EY, simprocAttr, and_self, List.length_append, List.length_map, List.length_set, TYX, UX]), trivial⟩ rfl rfl ?_
      simp only [↓PX, SX, SYX, EY, simprocAttr, TYX, UX]
      refine CallVC.intro (u_Trim s b hb hl2) ⟨rfl, (by simp only [argMatch, SX, SYX, EY, simprocAttr, and_self, List.length_append, List.length_map, List.length_set, TYX, UX, d, d2]), trivial⟩ rfl rfl ?_
      simp only [↓PX, SX, SYX, EY, simprocAttr, TYX, UX, d, d2]
      refine CallVC.intro (u_multiply s (tp (md s) a) (tp (md s) b) (tpW s a) (tpW s b) (by omega)) ⟨rfl, (by simp only [argMatch, SX, SYX, EY, simprocAttr, and_self, List.length_append, List.length_map, List.length_set, TYX, UX]), (by simp only [argMatch, SX, SYX, EY, simprocAttr, and_self, List.length_append, List.length_map, List.length_set, TYX, UX]), trivial⟩ rfl rfl ?_
      simp only [↓PX, SX, SYX, EY, simprocAttr, TYX, UX]
    · have e1 : pM s a b = [] := by simp [pM, okM, hk, h]
      have e2 : eM s a b = 70 := by simp [eM, hk, h]
      have d2 : decide ((1024 : Int) < (((tp (md s) a).length + (tp (md s) b).length : Nat) : Int)) = true := by simp; omega
      rw [e1, e2]
      refine contract_of (N := _) (vars := _) (c := bodyOf Try.f32) Try.func32 (body_eq rfl) rfl rfl (by rfl) mixed _ _ trivial 1000 ?_
      simp only [bodyOf, Try.f32, Option.getD_some, argA, argE, List.length_cons, List.length_nil, Nat.reduceAdd, Nat.reduceSub, List.replicate, List.cons_append, List.nil_append]
      simp only [↓PX, SX, SYX, EY, simprocAttr, TYX, UX]
      refine CallVC.intro (u_known s) ⟨rfl, trivial⟩ rfl rfl ?_
      simp only [↓PX, SX, SYX, EY, simprocAttr, TYX, UX, he]
      repeat (first | refine DrawVC.intro (by kernel_rfl) ?_ | refine And.intro (by omega) ?_ | exact trivial)
      refine CallVC.intro (u_Trim s a ha hl) ⟨rfl, (by simp only [argMatch, SX, SYX, EY, simprocAttr, and_self, List.length_append, List.length_map, List.length_set, TYX, UX]), trivial⟩ rfl rfl ?_
      simp only [↓PX, SX, SYX, EY, simprocAttr, TYX, UX]
      refine CallVC.intro (u_Trim s b hb hl2) ⟨rfl, (by simp only [argMatch, SX, SYX, EY, simprocAttr, and_self, List.length_append, List.length_map, List.length_set, TYX, UX, d, d2]), trivial⟩ rfl rfl ?_
      simp only [↓PX, SX, SYX, EY, simprocAttr, TYX, UX, d, d2]
theorem v_PMul (s : Int) (a b : List Nat) (ha : ∀ x ∈ a, x < W256) (hb : ∀ x ∈ b, x < W256) (hl : a.length * 32 ≤ 140737488355328) (hl2 : b.length * 32 ≤ 140737488355328) :
    Contract Try.prog 33 [.val (.int .i64 s), .sl a.length 4 (LC eC a), .sl b.length 4 (LC eC b)] [.part (pM s a b).length 4 (LC eC (pM s a b)), .val (.int .i64 (eM s a b))] := by
  cases hk : kn s with
  | false =>
    have e1 : pM s a b = [] := by simp [pM, okM, hk]
    have e2 : eM s a b = 20 := by simp [eM, hk]
    rw [e1, e2]
    refine contract_of (N := _) (vars := _) (c := bodyOf Try.f33) Try.func33 (body_eq rfl) rfl rfl (by rfl) mixed _ _ trivial 1000 ?_
    simp only [bodyOf, Try.f33, Option.getD_some, argA, argE, List.length_cons, List.length_nil, Nat.reduceAdd, Nat.reduceSub, List.replicate, List.cons_append, List.nil_append]
    simp only [↓PX, SX, SYX, EY, simprocAttr, TYX, UX]
    refine CallVC.intro (v_known s) ⟨rfl, trivial⟩ rfl rfl ?_
    simp only [↓PX, SX, SYX, EY, simprocAttr, TYX, UX, hk]
  | true =>
    have h1 := tp_len (md s) a
    have h2 := tp_len (md s) b
    have d : IntKind.i64.wrap (((tp (md s) a).length : Int) + ((tp (md s) b).length : Int)) = (((tp (md s) a).length + (tp (md s) b).length : Nat) : Int) := by rw [wI (by omega) (by omega)]; rfl
    by_cases h : (tp (md s) a).length + (tp (md s) b).length ≤ 1024
    · have e1 : pM s a b = tp (md s) (pMul (tp (md s) a) (tp (md s) b)) := by simp [pM, okM, hk, h]
      have e2 : eM s a b = 0 := by simp [eM, hk, h]
      have d2 : decide ((1024 : Int) < (((tp (md s) a).length + (tp (md s) b).length : Nat) : Int)) = false := by simp; omega
      rw [e1, e2]
      refine contract_of (N := _) (vars := _) (c := bodyOf Try.f33) Try.func33 (body_eq rfl) rfl rfl (by rfl) mixed _ _ trivial 1000 ?_
      simp only [bodyOf, Try.f33, Option.getD_some, argA, argE, List.length_cons, List.length_nil, Nat.reduceAdd, Nat.reduceSub, List.replicate, List.cons_append, List.nil_append]
      simp only [↓PX, SX, SYX, EY, simprocAttr, TYX, UX]
      refine CallVC.intro (v_known s) ⟨rfl, trivial⟩ rfl rfl ?_
      simp only [↓PX, SX, SYX, EY, simprocAttr, TYX, UX, hk]
      refine CallVC.intro (v_Trim s a ha hl) ⟨rfl, (by simp only [argMatch, SX, SYX, EY, simprocAttr, and_self, List.length_append, List.length_map, List.length_set, TYX, UX]), trivial⟩ rfl rfl ?_
      simp only [↓PX, SX, SYX, EY, simprocAttr, TYX, UX]
      refine CallVC.intro (v_Trim s b hb hl2) ⟨rfl, (by simp only [argMatch, SX, SYX, EY, simprocAttr, and_self, List.length_append, List.length_map, List.length_set, TYX, UX, d, d2]), trivial⟩ rfl rfl ?_
      simp only [↓PX, SX, SYX, EY, simprocAttr, TYX, UX, d, d2]
      refine CallVC.intro (v_Times s (tp (md s) a) (tp (md s) b) (tpW s a) (tpW s b) (by omega)) ⟨rfl, (by simp only [argMatch, SX, SYX, EY, simprocAttr, and_self, List.length_append, List.length_map, List.length_set, TYX, UX]), (by simp only [argMatch, SX, SYX, EY, simprocAttr, and_self, List.length_append, List.length_map, List.length_set, TYX, UX]), trivial⟩ rfl rfl ?_
      simp only [↓PX, SX, SYX, EY, simprocAttr, TYX, UX]
    · have e1 : pM s a b = [] := by simp [pM, okM, hk, h]
      have e2 : eM s a b = 70 := by simp [eM, hk, h]
      have d2 : decide ((1024 : Int) < (((tp (md s) a).length + (tp (md s) b).length : Nat) : Int)) = true := by simp; omega
      rw [e1, e2]
      refine contract_of (N := _) (vars := _) (c := bodyOf Try.f33) Try.func33 (body_eq rfl) rfl rfl (by rfl) mixed _ _ trivial 1000 ?_
      simp only [bodyOf, Try.f33, Option.getD_some, argA, argE, List.length_cons, List.length_nil, Nat.reduceAdd, Nat.reduceSub, List.replicate, List.cons_append, List.nil_append]
      simp only [↓PX, SX, SYX, EY, simprocAttr, TYX, UX]
      refine CallVC.intro (v_known s) ⟨rfl, trivial⟩ rfl rfl ?_
      simp only [↓PX, SX, SYX, EY, simprocAttr, TYX, UX, hk]
      refine CallVC.intro (v_Trim s a ha hl) ⟨rfl, (by simp only [argMatch, SX, SYX, EY, simprocAttr, and_self, List.length_append, List.length_map, List.length_set, TYX, UX]), trivial⟩ rfl rfl ?_
      simp only [↓PX, SX, SYX, EY, simprocAttr, TYX, UX]
      refine CallVC.intro (v_Trim s b hb hl2) ⟨rfl, (by simp only [argMatch, SX, SYX, EY, simprocAttr, and_self, List.length_append, List.length_map, List.length_set, TYX, UX, d, d2]), trivial⟩ rfl rfl ?_
      simp only [↓PX, SX, SYX, EY, simprocAttr, TYX, UX, d, d2]
end Go.Sx
