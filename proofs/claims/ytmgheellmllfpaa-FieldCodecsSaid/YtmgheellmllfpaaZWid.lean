/-
  Wide of both; Spare; the law FieldCodecs. No conditions.
-/
import Derived.Test.YtmgheellmllfpaaZReg
import Derived.Test.YtmgheellmllfpaaZDed
namespace Go.Sx
open Go.Proofs Go.Num
-- SY
-- TY: TYX, cellsNV, foldNV, BY
set_option maxRecDepth 100000
set_option linter.unusedSimpArgs false
set_option pp.deepTerms true
set_option pp.maxSteps 100000
/-- The number of 64 bytes. -/
def wdN (l : List Nat) : Nat := nb (l.drop 32) 32 * W256 + nb (l.take 32) 32
def wV (s : Int) (l : List Nat) : Nat := if kn s = true ∧ l.length = 64 then wdN l % md s else 0
def wE (s : Int) (l : List Nat) : Int := if kn s then (if l.length = 64 then 0 else 21) else 20
theorem wV_w (s : Int) (l : List Nat) : wV s l < md s := by
  unfold wV
  split
  · exact Nat.mod_lt _ (md_pos s)
  · exact md_pos s
theorem u_Wide (s : Int) (l : List Nat) (hl : ∀ x ∈ l, x < 256) (hb : l.length < 9223372036854775807) : Contract Try.prog 48 [.val (.int .i64 s), .sl l.length 1 (LC bC l)] [.val (EN (wV s l)), .val (.int .i64 (wE s l))] := by
  cases srt s with
  | no hk he hm F =>
    have e1 : wV s l = 0 := by simp [wV, hk]
    have e2 : wE s l = 20 := by simp [wE, hk]
    rw [e1, e2]
    refine contract_of (N := _) (vars := _) (c := bodyOf Try.f48) Try.func48 (body_eq rfl) rfl rfl (by rfl) mixed _ _ trivial 1000 ?_
    simp only [bodyOf, Try.f48, Option.getD_some, argA, argE, List.length_cons, List.length_nil, Nat.reduceAdd, Nat.reduceSub, List.replicate, List.cons_append, List.nil_append]
    simp only [↓PX, SX, SYX, EY, simprocAttr, TYX, cellsNV, foldNV, BY]
    refine CallVC.intro (F.of) ⟨rfl, trivial⟩ rfl rfl ?_
    simp only [↓PX, SX, SYX, EY, simprocAttr, TYX, cellsNV, foldNV, BY, he]
  | yes hk he sm ng sq F R P h2 =>
    have hmw : md s < W256 := by have := md_lt s; omega
    by_cases h64 : l.length = 64
    · have hl1 : ∀ x ∈ l.take 32, x < 256 := fun x hx => hl x (List.mem_of_mem_take hx)
      have hl2 : ∀ x ∈ l.drop 32, x < 256 := fun x hx => hl x (List.mem_of_mem_drop hx)
      have k1 : (l.take 32).length = 32 := by simp; omega
      have k2 : (l.drop 32).length = 32 := by simp; omega
      have n1 := nb_w hl1 k1
      have n2 := nb_w hl2 k2
      have e1 : wV s l = wdN l % md s := by simp [wV, hk, h64]
      have e2 : wE s l = 0 := by simp [wE, hk, h64]
      have f1 : List.take 32 (LC bC l) = LC bC (l.take 32) := bL_take
      have f2 : List.drop 32 (LC bC l) = LC bC (l.drop 32) := bL_drop
      have f3 : List.take 64 (LC bC l) = LC bC l := by rw [← h64]; exact bL_full
      have f4 : List.take 32 (LC bC (l.take 32)) = LC bC (l.take 32) := by rw [bL_take, List.take_take]; rfl
      have f5 : List.take 32 (LC bC (l.drop 32)) = LC bC (l.drop 32) := by rw [bL_take, List.take_of_length_le (Nat.le_of_eq k2)]
      rw [e1, e2, h64]
      refine contract_of (N := _) (vars := _) (c := bodyOf Try.f48) Try.func48 (body_eq rfl) rfl rfl (by rfl) mixed _ _ trivial 1000 ?_
      simp only [bodyOf, Try.f48, Option.getD_some, argA, argE, List.length_cons, List.length_nil, Nat.reduceAdd, Nat.reduceSub, List.replicate, List.cons_append, List.nil_append]
      simp only [↓PX, SX, SYX, EY, simprocAttr, TYX, cellsNV, foldNV, BY]
      refine CallVC.intro (F.of) ⟨rfl, trivial⟩ rfl rfl ?_
      simp only [↓PX, SX, SYX, EY, simprocAttr, TYX, cellsNV, foldNV, BY, he, f3]
      repeat (first | refine DrawVC.intro (by kernel_rfl) ?_ | refine And.intro (by omega) ?_ | exact trivial)
      refine CallVC.intro (u_number _ hl1 k1) ⟨(by simp only [argMatch, SX, SYX, EY, simprocAttr, and_self, List.length_append, List.length_map, List.length_set, TYX, cellsNV, foldNV, BY, f1, f2, f4, f5, k1, k2]), trivial⟩ rfl rfl ?_
      simp only [↓PX, SX, SYX, EY, simprocAttr, TYX, cellsNV, foldNV, BY, f1, f2, f4, f5, k1, k2]
      refine CallVC.intro (u_number _ hl2 k2) ⟨(by simp only [argMatch, SX, SYX, EY, simprocAttr, and_self, List.length_append, List.length_map, List.length_set, TYX, cellsNV, foldNV, BY, f1, f2, f4, f5, k1, k2]), trivial⟩ rfl rfl ?_
      simp only [↓PX, SX, SYX, EY, simprocAttr, TYX, cellsNV, foldNV, BY, f1, f2, f4, f5, k1, k2]
      refine CallVC.intro (c_Rem _ _ _ n1 n2 hmw (md_pos s)) ⟨rfl, rfl, rfl, trivial⟩ rfl rfl ?_
      simp only [↓PX, SX, SYX, EY, simprocAttr, TYX, cellsNV, foldNV, BY]
      rfl
    · have e1 : wV s l = 0 := by simp [wV, h64]
      have e2 : wE s l = 21 := by simp [wE, hk, h64]
      have d1 : ((l.length : Int) != 64) = true := by simp; omega
      rw [e1, e2]
      refine contract_of (N := _) (vars := _) (c := bodyOf Try.f48) Try.func48 (body_eq rfl) rfl rfl (by rfl) mixed _ _ trivial 1000 ?_
      simp only [bodyOf, Try.f48, Option.getD_some, argA, argE, List.length_cons, List.length_nil, Nat.reduceAdd, Nat.reduceSub, List.replicate, List.cons_append, List.nil_append]
      simp only [↓PX, SX, SYX, EY, simprocAttr, TYX, cellsNV, foldNV, BY]
      refine CallVC.intro (F.of) ⟨rfl, trivial⟩ rfl rfl ?_
      simp only [↓PX, SX, SYX, EY, simprocAttr, TYX, cellsNV, foldNV, BY, he, d1]
      repeat (first | refine DrawVC.intro (by kernel_rfl) ?_ | refine And.intro (by omega) ?_ | exact trivial)
theorem v_Wide (s : Int) (l : List Nat) (hl : ∀ x ∈ l, x < 256) (hb : l.length < 9223372036854775807) : Contract Try.prog 49 [.val (.int .i64 s), .sl l.length 1 (LC bC l)] [.val (EN (wV s l)), .val (.int .i64 (wE s l))] := by
  cases srt s with
  | no hk he hm F =>
    have e1 : wV s l = 0 := by simp [wV, hk]
    have e2 : wE s l = 20 := by simp [wE, hk]
    rw [e1, e2]
    refine contract_of (N := _) (vars := _) (c := bodyOf Try.f49) Try.func49 (body_eq rfl) rfl rfl (by rfl) mixed _ _ trivial 1000 ?_
    simp only [bodyOf, Try.f49, Option.getD_some, argA, argE, List.length_cons, List.length_nil, Nat.reduceAdd, Nat.reduceSub, List.replicate, List.cons_append, List.nil_append]
    simp only [↓PX, SX, SYX, EY, simprocAttr, TYX, cellsNV, foldNV, BY]
    refine CallVC.intro (v_Modulus s) ⟨rfl, trivial⟩ rfl rfl ?_
    simp only [↓PX, SX, SYX, EY, simprocAttr, TYX, cellsNV, foldNV, BY, he]
  | yes hk he sm ng sq F R P h2 =>
    have hmw : md s < W256 := by have := md_lt s; omega
    have e0 : mN s = md s := by simp [mN, hk]
    by_cases h64 : l.length = 64
    · have hl1 : ∀ x ∈ l.take 32, x < 256 := fun x hx => hl x (List.mem_of_mem_take hx)
      have hl2 : ∀ x ∈ l.drop 32, x < 256 := fun x hx => hl x (List.mem_of_mem_drop hx)
      have k1 : (l.take 32).length = 32 := by simp; omega
      have k2 : (l.drop 32).length = 32 := by simp; omega
      have n1 := nb_w hl1 k1
      have n2 := nb_w hl2 k2
      have e1 : wV s l = wdN l % md s := by simp [wV, hk, h64]
      have e2 : wE s l = 0 := by simp [wE, hk, h64]
      have f1 : List.take 32 (LC bC l) = LC bC (l.take 32) := bL_take
      have f2 : List.drop 32 (LC bC l) = LC bC (l.drop 32) := bL_drop
      have f3 : List.take 64 (LC bC l) = LC bC l := by rw [← h64]; exact bL_full
      have f4 : List.take 32 (LC bC (l.take 32)) = LC bC (l.take 32) := by rw [bL_take, List.take_take]; rfl
      have f5 : List.take 32 (LC bC (l.drop 32)) = LC bC (l.drop 32) := by rw [bL_take, List.take_of_length_le (Nat.le_of_eq k2)]
      rw [e1, e2, h64]
      refine contract_of (N := _) (vars := _) (c := bodyOf Try.f49) Try.func49 (body_eq rfl) rfl rfl (by rfl) mixed _ _ trivial 1000 ?_
      simp only [bodyOf, Try.f49, Option.getD_some, argA, argE, List.length_cons, List.length_nil, Nat.reduceAdd, Nat.reduceSub, List.replicate, List.cons_append, List.nil_append]
      simp only [↓PX, SX, SYX, EY, simprocAttr, TYX, cellsNV, foldNV, BY]
      refine CallVC.intro (v_Modulus s) ⟨rfl, trivial⟩ rfl rfl ?_
      simp only [↓PX, SX, SYX, EY, simprocAttr, TYX, cellsNV, foldNV, BY, he, e0, f3]
      repeat (first | refine DrawVC.intro (by kernel_rfl) ?_ | refine And.intro (by omega) ?_ | exact trivial)
      refine CallVC.intro (v_number _ hl1 k1) ⟨(by simp only [argMatch, SX, SYX, EY, simprocAttr, and_self, List.length_append, List.length_map, List.length_set, TYX, cellsNV, foldNV, BY, f1, f2, f4, f5, k1, k2]), trivial⟩ rfl rfl ?_
      simp only [↓PX, SX, SYX, EY, simprocAttr, TYX, cellsNV, foldNV, BY, f1, f2, f4, f5, k1, k2]
      refine CallVC.intro (v_number _ hl2 k2) ⟨(by simp only [argMatch, SX, SYX, EY, simprocAttr, and_self, List.length_append, List.length_map, List.length_set, TYX, cellsNV, foldNV, BY, f1, f2, f4, f5, k1, k2]), trivial⟩ rfl rfl ?_
      simp only [↓PX, SX, SYX, EY, simprocAttr, TYX, cellsNV, foldNV, BY, f1, f2, f4, f5, k1, k2]
      refine CallVC.intro (v_Rem _ _ _ n1 n2 hmw (md_pos s)) ⟨rfl, rfl, rfl, trivial⟩ rfl rfl ?_
      simp only [↓PX, SX, SYX, EY, simprocAttr, TYX, cellsNV, foldNV, BY]
      rfl
    · have e1 : wV s l = 0 := by simp [wV, h64]
      have e2 : wE s l = 21 := by simp [wE, hk, h64]
      have d1 : ((l.length : Int) != 64) = true := by simp; omega
      rw [e1, e2]
      refine contract_of (N := _) (vars := _) (c := bodyOf Try.f49) Try.func49 (body_eq rfl) rfl rfl (by rfl) mixed _ _ trivial 1000 ?_
      simp only [bodyOf, Try.f49, Option.getD_some, argA, argE, List.length_cons, List.length_nil, Nat.reduceAdd, Nat.reduceSub, List.replicate, List.cons_append, List.nil_append]
      simp only [↓PX, SX, SYX, EY, simprocAttr, TYX, cellsNV, foldNV, BY]
      refine CallVC.intro (v_Modulus s) ⟨rfl, trivial⟩ rfl rfl ?_
      simp only [↓PX, SX, SYX, EY, simprocAttr, TYX, cellsNV, foldNV, BY, he, d1]
      repeat (first | refine DrawVC.intro (by kernel_rfl) ?_ | refine And.intro (by omega) ?_ | exact trivial)
/-- The marks behind a list. -/
def spL (l : List Nat) : List Nat := l ++ [201, 202, 203, 204, 205, 206, 207, 208]
theorem c_Spare (l : List Nat) (hb : l.length + 8 ≤ 140737488355328) : Contract Try.prog 46 [.sl l.length 1 (LC bC l)] [.row 5 1 (l.length + 8) (LC bC (spL l))] := by
  refine contract_of (N := _) (vars := _) (c := bodyOf Try.f46) Try.func46 (body_eq rfl) rfl rfl (by rfl) mixed _ _ trivial 1000 ?_
  simp only [bodyOf, Try.f46, Option.getD_some, argA, argE, List.length_cons, List.length_nil, Nat.reduceAdd, Nat.reduceSub, List.replicate, List.cons_append, List.nil_append]
  simp only [↓PX, SX, SYX, EY, simprocAttr, TYX, cellsNV, foldNV, BY]
  refine CallVC.intro (c_CopyBytes l (by omega)) ⟨(by simp only [argMatch, SX, SYX, EY, simprocAttr, and_self, List.length_append, List.length_map, List.length_set, TYX, cellsNV, foldNV, BY]), trivial⟩ rfl rfl ?_
  simp only [↓PX, SX, SYX, EY, simprocAttr, TYX, cellsNV, foldNV, BY]
  refine loop_hav ?_
  simp only [↓PX, SX, SYX, EY, simprocAttr, TYX, cellsNV, foldNV, BY]
  refine loop_go mixed (by trivial) (γ := Nat) (fun i => i ≤ 8) (fun i => 8 - i) (fun i => [(3, .o (.r 9 (l.length + i))), (4, iv i), (6, .o .any)]) (fun i => [(9, .row 5 1 (l.length + i) (LC bC (l ++ tab i (fun j => 201 + j))))]) 0 (by omega) (St.le_of id (by simp [-List.getD_eq_getElem?_getD, SYX, iv, Tle, AVle, A0le, Mem.get, tab, List.range_zero, List.map_nil, List.append_nil]) (by simp [-List.getD_eq_getElem?_getD, SYX, Mle, Ele, Mem.get, tab, List.range_zero, List.map_nil, List.append_nil]) (by simp [SYX]) (by simp [SYX])) ?_
  intro i hi
  simp only [↓PX, SX, SYX, EY, simprocAttr, TYX, cellsNV, foldNV, BY]
  refine cond_split (fun h0 => ?_) (fun h0 => ?_)
  · have h0 : i < 8 := by
      have : (i : Int) < 8 := by simpa using h0
      omega
    have sp1 : IntKind.i64.wrap (201 + (i : Int)) % 256 = ((201 + i : Nat) : Int) := by
      rw [wI (by omega) (by omega)]
      omega
    have ht : l ++ (tab i (fun j => 201 + j) ++ [201 + i]) = l ++ tab (i + 1) (fun j => 201 + j) := by simp [tab, List.range_succ]
    simp only [↓PX, SX, SYX, EY, simprocAttr, TYX, cellsNV, foldNV, BY, wS (j := i) (by omega), sp1]
    refine ⟨by omega, i + 1, by omega, by omega, (St.le_of (ren [(9, 49)]) (by simp [-List.getD_eq_getElem?_getD, SYX, iv, ren, Tle, AVle, A0le, Mem.get, List.append_assoc, ht, Nat.add_assoc]) (by simp [-List.getD_eq_getElem?_getD, SYX, ren, Mle, Ele, Mem.get, List.append_assoc, ht, Nat.add_assoc]) (by simp [SYX, ren]) (by simp [SYX]))⟩
  · have h0 : i = 8 := by
      have : (8 : Int) ≤ (i : Int) := by simpa using h0
      omega
    subst h0
    simp only [↓PX, SX, SYX, EY, simprocAttr, TYX, cellsNV, foldNV, BY]
    exact ⟨rfl, by simp⟩
theorem c_codecs (s : Int) (a : Nat) (l : List Nat) (ha : a < W256) (hl : ∀ x ∈ l, x < 256) (hb : l.length + 8 ≤ 140737488355328) :
    Contract Try.prog 11 [.val (.int .i64 s), .val (EN a), .sl l.length 1 (LC bC l)] [.val (.bool true)] := by
  have hd := md_w s (dV s l)
  refine contract_of (N := _) (vars := _) (c := bodyOf Try.f11) Try.func11 (body_eq rfl) rfl rfl (by rfl) mixed _ _ trivial 1000 ?_
  simp only [bodyOf, Try.f11, Option.getD_some, argA, argE, List.length_cons, List.length_nil, Nat.reduceAdd, Nat.reduceSub, List.replicate, List.cons_append, List.nil_append]
  simp only [↓PX, SX, SYX, EY, simprocAttr, TYX, cellsNV, foldNV, BY]
  refine CallVC.intro (c_alive) trivial rfl rfl ?_
  simp only [↓PX, SX, SYX, EY, simprocAttr, TYX, cellsNV, foldNV, BY]
  have sp : List.take l.length (LC bC (spL l)) = LC bC l := bL_pre
  refine CallVC.intro (c_Spare l hb) ⟨(by simp only [argMatch, SX, SYX, EY, simprocAttr, and_self, List.length_append, List.length_map, List.length_set, TYX, cellsNV, foldNV, BY, sp]), trivial⟩ rfl rfl ?_
  simp only [↓PX, SX, SYX, EY, simprocAttr, TYX, cellsNV, foldNV, BY, sp]
  repeat (first | refine DrawVC.intro (by kernel_rfl) ?_ | refine And.intro (by omega) ?_ | exact trivial)
  refine CallVC.intro (u_Decode s l hl (by omega)) ⟨rfl, (by simp only [argMatch, SX, SYX, EY, simprocAttr, and_self, List.length_append, List.length_map, List.length_set, TYX, cellsNV, foldNV, BY, sp]), trivial⟩ rfl rfl ?_
  simp only [↓PX, SX, SYX, EY, simprocAttr, TYX, cellsNV, foldNV, BY, sp]
  refine CallVC.intro (v_Decode s l hl (by omega)) ⟨rfl, (by simp only [argMatch, SX, SYX, EY, simprocAttr, and_self, List.length_append, List.length_map, List.length_set, TYX, cellsNV, foldNV, BY, sp]), trivial⟩ rfl rfl ?_
  simp only [↓PX, SX, SYX, EY, simprocAttr, TYX, cellsNV, foldNV, BY, sp]
  have hel : (encL s a).length ≤ 32 := by unfold encL; split <;> simp [byL_len]
  have hsl : (spL l).length = l.length + 8 := by simp [spL]
  repeat (first | refine DrawVC.intro (by kernel_rfl) ?_ | refine And.intro (by omega) ?_ | exact trivial)
  refine CallVC.intro (u_Encode s a ha) ⟨rfl, rfl, trivial⟩ rfl rfl ?_
  simp only [↓PX, SX, SYX, EY, simprocAttr, TYX, cellsNV, foldNV, BY]
  refine CallVC.intro (v_Encode s a ha) ⟨rfl, rfl, trivial⟩ rfl rfl ?_
  simp only [↓PX, SX, SYX, EY, simprocAttr, TYX, cellsNV, foldNV, BY]
  refine CallVC.intro (c_SameBytes (encL s a) (encL s a) (by omega)) ⟨(by simp only [argMatch, SX, SYX, EY, simprocAttr, and_self, List.length_append, List.length_map, List.length_set, TYX, cellsNV, foldNV, BY]), (by simp only [argMatch, SX, SYX, EY, simprocAttr, and_self, List.length_append, List.length_map, List.length_set, TYX, cellsNV, foldNV, BY]), trivial⟩ rfl rfl ?_
  simp only [↓PX, SX, SYX, EY, simprocAttr, TYX, cellsNV, foldNV, BY]
  repeat (first | refine DrawVC.intro (by kernel_rfl) ?_ | refine And.intro (by omega) ?_ | exact trivial)
  refine CallVC.intro (u_Wide s l hl (by omega)) ⟨rfl, (by simp only [argMatch, SX, SYX, EY, simprocAttr, and_self, List.length_append, List.length_map, List.length_set, TYX, cellsNV, foldNV, BY, sp]), trivial⟩ rfl rfl ?_
  simp only [↓PX, SX, SYX, EY, simprocAttr, TYX, cellsNV, foldNV, BY, sp]
  refine CallVC.intro (v_Wide s l hl (by omega)) ⟨rfl, (by simp only [argMatch, SX, SYX, EY, simprocAttr, and_self, List.length_append, List.length_map, List.length_set, TYX, cellsNV, foldNV, BY, sp]), trivial⟩ rfl rfl ?_
  simp only [↓PX, SX, SYX, EY, simprocAttr, TYX, cellsNV, foldNV, BY, sp]
  repeat (first | refine DrawVC.intro (by kernel_rfl) ?_ | refine And.intro (by omega) ?_ | exact trivial)
  refine CallVC.intro (c_Spare l hb) ⟨(by simp only [argMatch, SX, SYX, EY, simprocAttr, and_self, List.length_append, List.length_map, List.length_set, TYX, cellsNV, foldNV, BY]), trivial⟩ rfl rfl ?_
  simp only [↓PX, SX, SYX, EY, simprocAttr, TYX, cellsNV, foldNV, BY]
  refine CallVC.intro (c_SameBytes (spL l) (spL l) (by omega)) ⟨(by simp only [argMatch, SX, SYX, EY, simprocAttr, and_self, List.length_append, List.length_map, List.length_set, TYX, cellsNV, foldNV, BY, hsl]), (by simp only [argMatch, SX, SYX, EY, simprocAttr, and_self, List.length_append, List.length_map, List.length_set, TYX, cellsNV, foldNV, BY, hsl]), trivial⟩ rfl rfl ?_
  simp only [↓PX, SX, SYX, EY, simprocAttr, TYX, cellsNV, foldNV, BY, hsl]
end Go.Sx
