/-
  Checks of permute. No conditions.
-/
import Derived.Test.YtndmafefpiigoaaZPec
namespace Go.Sx
open Go.Proofs Go.Num
-- SY
-- TY: TYX, UX
set_option maxRecDepth 100000
set_option linter.unusedSimpArgs false
set_option pp.deepTerms true
set_option pp.maxSteps 100000
theorem X_min {P : Program} {T : Nat → AV} {x y : Operand} {tys : Array TypeId} {a b : Int} (hx : ev T x = .o (.v (.int .i64 a))) (hy : ev T y = .o (.v (.int .i64 b))) :
    pureOp P T (.call { callee := .builtin .min, args := #[x, y], argTypes := tys }) (.int .i64 (min a b)) := by
  intro o f w ho hf _
  have e1 := hf x (by simp [Op.operands, Go.Call.operands]) _ hx
  have e2 := hf y (by simp [Op.operands, Go.Call.operands]) _ hy
  simp [execOp, ho, resolve, invoke, builtin, Builtin.min_, e1, e2, Builtin.min2]
  split <;> omega
/-- A value of a check at a row: F (a - b). -/
def fsN (s : Int) (F a b : Nat) : Nat := F * sb (md s) a b % md s
theorem u_first (s : Int) (X F L U a b : Nat) (hF : F < W256) (ha : a < W256) (hb : b < W256) : Contract Try.prog 99 [.val (EN a), .val (EN b), .bx [.int .i64 s], .bx (sC X F L U)] [.val (EN (fsN s F a b))] := by
  unfold sC
  refine contract_of (N := _) (vars := _) (c := bodyOf Try.f99) Try.func99 (body_eq rfl) rfl rfl (by rfl) mixed _ _ trivial 1000 ?_
  simp only [bodyOf, Try.f99, Option.getD_some, argA, argE, List.length_cons, List.length_nil, Nat.reduceAdd, Nat.reduceSub, List.replicate, List.cons_append, List.nil_append]
  simp only [↓PX, SX, SYX, EY, simprocAttr, TYX, UX]
  repeat (first | refine DrawVC.intro (by kernel_rfl) ?_ | refine And.intro (by omega) ?_ | exact trivial)
  refine CallVC.intro (u_Sub' s a b ha hb) ⟨rfl, rfl, rfl, trivial⟩ rfl rfl ?_
  simp only [↓PX, SX, SYX, EY, simprocAttr, TYX, UX]
  refine CallVC.intro (u_Mul s F _ hF (sb_w _ _ _)) ⟨rfl, rfl, rfl, trivial⟩ rfl rfl ?_
  simp only [↓PX, SX, SYX, EY, simprocAttr, TYX, UX]
  rfl
/-- A chunk: its value here, at the next row, and at the last one of the chunk ahead. -/
def cC (z : Nat × Nat × Nat) : List Value := eC z.1 ++ eC z.2.1 ++ eC z.2.2
theorem cC_len (z : Nat × Nat × Nat) : (cC z).length = 12 := rfl
def zAt (zs : List (Nat × Nat × Nat)) (j : Nat) : Nat := (zs.getD j (0, 0, 0)).1
def zNx (zs : List (Nat × Nat × Nat)) (j : Nat) : Nat := (zs.getD j (0, 0, 0)).2.1
def zLs (zs : List (Nat × Nat × Nat)) (j : Nat) : Nat := (zs.getD j (0, 0, 0)).2.2
def ckA (s : Int) (F : Nat) (zs : List (Nat × Nat × Nat)) : Nat → Nat
  | 0 => fsN s F 1 (zAt zs 0)
  | j + 1 => fsN s F (zAt zs (j + 1)) (zLs zs j)
def ckB (s : Int) (L a : Nat) : Nat := fsN s L (a * a % md s) a
def lpN (s : Int) (cols sig : List Nat) (β γ : Nat) (i z : Nat) : Nat → Nat
  | 0 => z
  | t + 1 => lpN s cols sig β γ i z t * tmN s (cols.getD (i + t) 0) β (sig.getD (i + t) 0) γ % md s
def rpN (s : Int) (cols : List Nat) (X β γ : Nat) (i z : Nat) : Nat → Nat
  | 0 => z
  | t + 1 => rpN s cols X β γ i z t * tmN s (cols.getD (i + t) 0) β (pw s 1 (dlN s) (i + t) * X % md s) γ % md s
def rdN (n j : Nat) : Nat := min (2 * j + 2) n - 2 * j
def ckC (s : Int) (U X β γ : Nat) (cols sig : List Nat) (zs : List (Nat × Nat × Nat)) (j : Nat) : Nat :=
  fsN s U (lpN s cols sig β γ (2 * j) (zNx zs j) (rdN cols.length j)) (rpN s cols X β γ (2 * j) (zAt zs j) (rdN cols.length j))
def ckO (s : Int) (cols sig : List Nat) (zs : List (Nat × Nat × Nat)) : Bool := kn s && cols.length == sig.length && cols.length != 0 && zs.length == (cols.length + 1) / 2
def ckL (s : Int) (X F L U : Nat) (cols sig : List Nat) (zs : List (Nat × Nat × Nat)) (β γ : Nat) : List Nat :=
  if ckO s cols sig zs then tab zs.length (ckA s F zs) ++ [ckB s L (zAt zs (zs.length - 1))] ++ tab zs.length (ckC s U X β γ cols sig zs) else []
def zsW (zs : List (Nat × Nat × Nat)) : Prop := ∀ z ∈ zs, z.1 < W256 ∧ z.2.1 < W256 ∧ z.2.2 < W256
theorem zs_at {zs : List (Nat × Nat × Nat)} (h : zsW zs) (j : Nat) : zAt zs j < W256 ∧ zNx zs j < W256 ∧ zLs zs j < W256 := by
  unfold zAt zNx zLs
  rcases Nat.lt_or_ge j zs.length with hj | hj
  · have : zs.getD j (0, 0, 0) ∈ zs := by simp [List.getD, hj]
    exact h _ this
  · have : zs.getD j (0, 0, 0) = (0, 0, 0) := by simp [List.getD, List.getElem?_eq_none hj]
    rw [this]; exact ⟨by decide, by decide, by decide⟩
theorem cC_at {zs : List (Nat × Nat × Nat)} {j : Nat} (h : j < zs.length) : ((LC cC zs).drop (j * 12)).take 12 = [u64 (L0 (zAt zs j)), u64 (L1 (zAt zs j)), u64 (L2 (zAt zs j)), u64 (L3 (zAt zs j)), u64 (L0 (zNx zs j)), u64 (L1 (zNx zs j)), u64 (L2 (zNx zs j)), u64 (L3 (zNx zs j)), u64 (L0 (zLs zs j)), u64 (L1 (zLs zs j)), u64 (L2 (zLs zs j)), u64 (L3 (zLs zs j))] := by
  rw [LC_at cC_len (x := zs.getD j (0, 0, 0)) (by simp [List.getD, h])]; rfl
theorem cC_fld {zs : List (Nat × Nat × Nat)} {j : Nat} (h : j < zs.length) : Value.agg (((LC cC zs).drop (j * 12)).take 4).toArray = EN (zAt zs j) ∧ Value.agg (((LC cC zs).drop (j * 12 + 4)).take 4).toArray = EN (zNx zs j) ∧ Value.agg (((LC cC zs).drop (j * 12 + 8)).take 4).toArray = EN (zLs zs j) := by
  have h0 := cC_at h
  have hl : (LC cC zs).length = zs.length * 12 := LC_len cC_len zs
  refine ⟨?_, ?_, ?_⟩
  · have := congrArg (List.take 4) h0
    rw [List.take_take] at this
    rw [show min 4 12 = 4 by decide] at this
    rw [this]; rfl
  · have := congrArg (fun l => List.take 4 (List.drop 4 l)) h0
    simp only [List.drop_take, List.take_take, List.drop_drop] at this
    rw [show min 4 (12 - 4) = 4 by decide] at this
    rw [this]; rfl
  · have := congrArg (fun l => List.take 4 (List.drop 8 l)) h0
    simp only [List.drop_take, List.take_take, List.drop_drop] at this
    rw [show min 4 (12 - 8) = 4 by decide] at this
    rw [this]; rfl
set_option maxHeartbeats 3200000 in
theorem u_Checks (s : Int) (X F L U : Nat) (cols sig : List Nat) (zs : List (Nat × Nat × Nat)) (β γ : Nat) (hX : X < W256) (hF : F < W256) (hL : L < W256) (hU : U < W256) (hc : ∀ x ∈ cols, x < W256) (hs : ∀ x ∈ sig, x < W256) (hz : zsW zs) (hβ : β < W256) (hγ : γ < W256) (hn : cols.length ≤ 20) (hn2 : sig.length ≤ 20) (hm : zs.length ≤ 20) :
    Contract Try.prog 55 [.val (.int .i64 s), .val (SN X F L U), .sl cols.length 4 (LC eC cols), .sl sig.length 4 (LC eC sig), .sl zs.length 12 (LC cC zs), .val (EN β), .val (EN γ)] [.row 25 4 (ckL s X F L U cols sig zs β γ).length (LC eC (ckL s X F L U cols sig zs β γ))] := by
  unfold SN
  cases hk : kn s with
  | false =>
    have he : (eS s != 0) = true := by simp [eS, hk]
    have e1 : ckL s X F L U cols sig zs β γ = [] := by unfold ckL ckO; rw [hk]; rfl
    rw [e1]
    refine contract_of (N := _) (vars := _) (c := bodyOf Try.f55) Try.func55 (body_eq rfl) rfl rfl (by rfl) mixed _ _ trivial 1000 ?_
    simp only [bodyOf, Try.f55, Option.getD_some, argA, argE, List.length_cons, List.length_nil, Nat.reduceAdd, Nat.reduceSub, List.replicate, List.cons_append, List.nil_append]
    simp only [↓PX, SX, SYX, EY, simprocAttr, TYX, UX]
    refine CallVC.intro (u_Modulus s) ⟨rfl, trivial⟩ rfl rfl ?_
    simp only [↓PX, SX, SYX, EY, simprocAttr, TYX, UX, he]
  | true =>
    have he : eS s = 0 := by simp [eS, hk]
    cases d1 : ((cols.length : Int) != (sig.length : Int)) with
    | true =>
      have e1 : ckL s X F L U cols sig zs β γ = [] := by
        have : (cols.length == sig.length) = false := by
          rw [beq_eq_false_iff_ne]; intro e; rw [e] at d1; simp at d1
        unfold ckL ckO; rw [hk, this]; rfl
      rw [e1]
      refine contract_of (N := _) (vars := _) (c := bodyOf Try.f55) Try.func55 (body_eq rfl) rfl rfl (by rfl) mixed _ _ trivial 1000 ?_
      simp only [bodyOf, Try.f55, Option.getD_some, argA, argE, List.length_cons, List.length_nil, Nat.reduceAdd, Nat.reduceSub, List.replicate, List.cons_append, List.nil_append]
      simp only [↓PX, SX, SYX, EY, simprocAttr, TYX, UX]
      refine CallVC.intro (u_Modulus s) ⟨rfl, trivial⟩ rfl rfl ?_
      simp only [↓PX, SX, SYX, EY, simprocAttr, TYX, UX, he, d1]
    | false =>
      have q1 : cols.length = sig.length := by
        have : (cols.length : Int) = (sig.length : Int) := by simpa using d1
        omega
      cases d2 : ((cols.length : Int) == 0) with
      | true =>
        have e1 : ckL s X F L U cols sig zs β γ = [] := by
          have : cols.length = 0 := by have := of_decide_eq_true d2; omega
          unfold ckL ckO; rw [hk, this]; simp
        rw [e1]
        refine contract_of (N := _) (vars := _) (c := bodyOf Try.f55) Try.func55 (body_eq rfl) rfl rfl (by rfl) mixed _ _ trivial 1000 ?_
        simp only [bodyOf, Try.f55, Option.getD_some, argA, argE, List.length_cons, List.length_nil, Nat.reduceAdd, Nat.reduceSub, List.replicate, List.cons_append, List.nil_append]
        simp only [↓PX, SX, SYX, EY, simprocAttr, TYX, UX]
        refine CallVC.intro (u_Modulus s) ⟨rfl, trivial⟩ rfl rfl ?_
        simp only [↓PX, SX, SYX, EY, simprocAttr, TYX, UX, he, d1, d2]
      | false =>
        have q2 : cols.length ≠ 0 := by
          intro e; rw [e] at d2; simp at d2
        have w1 : IntKind.i64.wrap ((cols.length : Int) + 2) = ((cols.length + 2 : Nat) : Int) := by rw [wI (by omega) (by omega)]; rfl
        have w2 : IntKind.i64.wrap (((cols.length + 2 : Nat) : Int) - 1) = ((cols.length + 1 : Nat) : Int) := by rw [wI (by omega) (by omega)]; omega
        have w3 : IntKind.i64.wrap (((cols.length + 1 : Nat) : Int).tdiv 2) = (((cols.length + 1) / 2 : Nat) : Int) := by
          have : ((cols.length + 1 : Nat) : Int).tdiv 2 = (((cols.length + 1) / 2 : Nat) : Int) := rfl
          rw [this]; exact wI (by omega) (by omega)
        cases d3 : ((zs.length : Int) != (((cols.length + 1) / 2 : Nat) : Int)) with
        | true =>
          have e1 : ckL s X F L U cols sig zs β γ = [] := by
            have : (zs.length == (cols.length + 1) / 2) = false := by
              rw [beq_eq_false_iff_ne]; intro e; rw [e] at d3; simp at d3
            unfold ckL ckO; rw [hk, this]; simp
          rw [e1]
          refine contract_of (N := _) (vars := _) (c := bodyOf Try.f55) Try.func55 (body_eq rfl) rfl rfl (by rfl) mixed _ _ trivial 1000 ?_
          simp only [bodyOf, Try.f55, Option.getD_some, argA, argE, List.length_cons, List.length_nil, Nat.reduceAdd, Nat.reduceSub, List.replicate, List.cons_append, List.nil_append]
          simp only [↓PX, SX, SYX, EY, simprocAttr, TYX, UX]
          refine CallVC.intro (u_Modulus s) ⟨rfl, trivial⟩ rfl rfl ?_
          simp only [↓PX, SX, SYX, EY, simprocAttr, TYX, UX, he, d1, d2, w1, w2, w3, d3]
        | false =>
          have q3 : zs.length = (cols.length + 1) / 2 := by
            have : (zs.length : Int) = (((cols.length + 1) / 2 : Nat) : Int) := by simpa using d3
            omega
          have e1 : ckL s X F L U cols sig zs β γ = tab zs.length (ckA s F zs) ++ [ckB s L (zAt zs (zs.length - 1))] ++ tab zs.length (ckC s U X β γ cols sig zs) := by
            have : (cols.length == sig.length) = true := by rw [q1]; simp
            have ho : ckO s cols sig zs = true := by
              unfold ckO
              rw [hk, this]
              simp only [Bool.true_and, Bool.and_eq_true, bne_iff_ne, beq_iff_eq]
              exact ⟨q2, q3⟩
            unfold ckL; rw [if_pos ho]
          rw [e1]
          have hmax : max cols.length 1 = cols.length := by omega
          have csh := u_shifts s cols.length hk (by omega)
          rw [hmax] at csh
          obtain ⟨f0, _, _⟩ := cC_fld (zs := zs) (j := 0) (by omega)
          rw [Nat.zero_mul, List.drop_zero] at f0
          refine contract_of (N := _) (vars := _) (c := bodyOf Try.f55) Try.func55 (body_eq rfl) rfl rfl (by rfl) mixed _ _ trivial 1000 ?_
          simp only [bodyOf, Try.f55, Option.getD_some, argA, argE, List.length_cons, List.length_nil, Nat.reduceAdd, Nat.reduceSub, List.replicate, List.cons_append, List.nil_append]
          simp only [↓PX, SX, SYX, EY, simprocAttr, TYX, UX]
          refine CallVC.intro (u_Modulus s) ⟨rfl, trivial⟩ rfl rfl ?_
          simp only [↓PX, SX, SYX, EY, simprocAttr, TYX, UX, he, d1, d2, w1, w2, w3, d3]
          have hlz : (LC cC zs).length = zs.length * 12 := LC_len cC_len zs
          refine CallVC.intro (csh) ⟨rfl, rfl, trivial⟩ rfl rfl ?_
          simp only [↓PX, SX, SYX, EY, simprocAttr, TYX, UX, f0, hlz]
          repeat (first | refine DrawVC.intro (by kernel_rfl) ?_ | refine And.intro (by omega) ?_ | exact trivial)
          have c0 := u_first s X F L U 1 (zAt zs 0) hF (by decide) (zs_at hz 0).1
          unfold sC at c0
          refine CloVC.intro (c0) ⟨rfl, rfl, (by simp only [argMatch, boxCells, List.drop_zero, SX, SYX, EY, simprocAttr, and_self, List.length_append, List.length_map, List.length_set, TYX, UX]), (by simp only [argMatch, boxCells, List.drop_zero, SX, SYX, EY, simprocAttr, and_self, List.length_append, List.length_map, List.length_set, TYX, UX]), trivial⟩ rfl rfl ?_
          simp only [↓PX, SX, SYX, EY, simprocAttr, TYX, UX]
          refine loop_hav ?_
          simp only [↓PX, SX, SYX, EY, simprocAttr, TYX, UX]
          obtain ⟨m, hm0⟩ : ∃ m, zs.length = m := ⟨_, rfl⟩
          have eA : [u64 (L0 (fsN s F 1 (zAt zs 0))), u64 (L1 (fsN s F 1 (zAt zs 0))), u64 (L2 (fsN s F 1 (zAt zs 0))), u64 (L3 (fsN s F 1 (zAt zs 0)))] = LC eC (tab 1 (ckA s F zs)) := rfl
          refine loop_go mixed (by trivial) (γ := Nat) (fun j => 1 ≤ j ∧ j ≤ zs.length) (fun j => zs.length - j) (fun j => [(21, iv j), (73, .o .any), (20, .o (.r 235 j))]) (fun j => [(235, .row 25 4 j (LC eC (tab j (ckA s F zs))))]) 1 (by omega)
            (St.le_of id (by simp [-List.getD_eq_getElem?_getD, SYX, iv, Tle, AVle, A0le, Mem.get, eA]) (by simp [-List.getD_eq_getElem?_getD, SYX, Mle, Ele, Hle, Tle, AVle, A0le, Mem.get, eA]) (by simp [SYX]) (by simp [SYX])) ?_
          rintro j ⟨hj1, hj⟩
          simp only [↓PX, SX, SYX, EY, simprocAttr, TYX, UX]
          refine cond_split (fun h0 => ?_) (fun h0 => ?_)
          · have h0 : j < zs.length := by simpa using h0
            obtain ⟨g0, _, _⟩ := cC_fld (zs := zs) (j := j) h0
            obtain ⟨_, _, g2⟩ := cC_fld (zs := zs) (j := j - 1) (by omega)
            have cj := u_first s X F L U (zAt zs j) (zLs zs (j - 1)) hF (zs_at hz j).1 (zs_at hz _).2.2
            have ej : fsN s F (zAt zs j) (zLs zs (j - 1)) = ckA s F zs j := by
              obtain ⟨i, rfl⟩ : ∃ i, j = i + 1 := ⟨j - 1, by omega⟩
              rfl
            unfold sC at cj
            rw [ej] at cj
            simp only [↓PX, SX, SYX, EY, simprocAttr, TYX, UX, wP (j := j) (by omega) (by omega), hlz, g0, g2]
            repeat (first | refine DrawVC.intro (by kernel_rfl) ?_ | refine And.intro (by omega) ?_ | exact trivial)
            refine CloVC.intro (cj) ⟨rfl, rfl, (by simp only [argMatch, boxCells, List.drop_zero, SX, SYX, EY, simprocAttr, and_self, List.length_append, List.length_map, List.length_set, TYX, UX, tab_snoc, wS (j := j) (by omega)]), (by simp only [argMatch, boxCells, List.drop_zero, SX, SYX, EY, simprocAttr, and_self, List.length_append, List.length_map, List.length_set, TYX, UX, tab_snoc, wS (j := j) (by omega)]), trivial⟩ rfl rfl ?_
            simp only [↓PX, SX, SYX, EY, simprocAttr, TYX, UX, tab_snoc, wS (j := j) (by omega)]
            repeat (first | refine DrawVC.intro (by kernel_rfl) ?_ | refine And.intro (by omega) ?_ | exact trivial)
            exact ⟨j + 1, by omega, by omega, (St.le_of (ren [(235, 323)]) (by simp [-List.getD_eq_getElem?_getD, SYX, iv, ren, Tle, AVle, A0le, Mem.get, Nat.add_assoc]) (by simp [-List.getD_eq_getElem?_getD, SYX, ren, Mle, Ele, Mem.get, Nat.add_assoc]) (by simp [SYX, ren]) (by simp [SYX]))⟩
          · have h0 : j = zs.length := by
              have : zs.length ≤ j := by simpa using h0
              omega
            obtain ⟨f1, _, _⟩ := cC_fld (zs := zs) (j := zs.length - 1) (by omega)
            rw [h0]
            simp only [↓PX, SX, SYX, EY, simprocAttr, TYX, UX, wP (j := zs.length) (by omega) (by omega), hlz, f1]
            repeat (first | refine DrawVC.intro (by kernel_rfl) ?_ | refine And.intro (by omega) ?_ | exact trivial)
            obtain ⟨a, ha⟩ : ∃ a, a = zAt zs (zs.length - 1) := ⟨_, rfl⟩
            have haw : a < W256 := by rw [ha]; exact (zs_at hz _).1
            rw [← ha]
            refine CallVC.intro (u_Mul s a a haw haw) ⟨rfl, rfl, rfl, trivial⟩ rfl rfl ?_
            simp only [↓PX, SX, SYX, EY, simprocAttr, TYX, UX]
            refine CallVC.intro (u_Sub' s _ a (md_w s _) haw) ⟨rfl, rfl, rfl, trivial⟩ rfl rfl ?_
            simp only [↓PX, SX, SYX, EY, simprocAttr, TYX, UX]
            refine CallVC.intro (u_Mul s L _ hL (sb_w _ _ _)) ⟨rfl, rfl, rfl, trivial⟩ rfl rfl ?_
            simp only [↓PX, SX, SYX, EY, simprocAttr, TYX, UX]
            repeat (first | refine DrawVC.intro (by kernel_rfl) ?_ | refine And.intro (by omega) ?_ | exact trivial)
            refine loop_hav ?_
            simp only [↓PX, SX, SYX, EY, simprocAttr, TYX, UX]
            have eB : L * sb (md s) (a * a % md s) a % md s = ckB s L a := rfl
            rw [eB]
            obtain ⟨P0, hP0⟩ : ∃ P0, P0 = tab zs.length (ckA s F zs) ++ [ckB s L a] := ⟨_, rfl⟩
            have hPl : P0.length = zs.length + 1 := by rw [hP0, List.length_append, tab_len]; rfl
            rw [← hP0]
            refine loop_go mixed (by trivial) (γ := Nat) (fun j => j ≤ zs.length) (fun j => zs.length - j) (fun j => [(119, iv j), (116, .o .any), (20, .o (.r 351 (zs.length + 1 + j)))]) (fun j => [(351, .row 25 4 (zs.length + 1 + j) (LC eC (P0 ++ tab j (ckC s U X β γ cols sig zs))))]) 0 (by omega)
              (St.le_of id (by simp [-List.getD_eq_getElem?_getD, SYX, iv, Tle, AVle, A0le, Mem.get, tab_0, List.append_nil]) (by simp [-List.getD_eq_getElem?_getD, SYX, Mle, Ele, Hle, Tle, AVle, A0le, Mem.get, tab_0, List.append_nil]) (by simp [SYX]) (by simp [SYX])) ?_
            intro j hj
            simp only [↓PX, SX, SYX, EY, simprocAttr, TYX, UX]
            refine cond_split (fun h0 => ?_) (fun h0 => ?_)
            · have h0 : j < zs.length := by simpa using h0
              have hcz := cC_at (zs := zs) (j := j) h0
              have w4 : IntKind.i64.wrap ((j : Int) * 2) = ((2 * j : Nat) : Int) := by rw [wI (by omega) (by omega)]; omega
              have hld : j * 12 + 12 ≤ (LC cC zs).length := by omega
              have hn1 : 2 * j < cols.length := by omega
              have hrd : 2 * j + rdN cols.length j = min (2 * j + 2) cols.length := by unfold rdN; omega
              obtain ⟨R, hR⟩ : ∃ R, rdN cols.length j = R := ⟨_, rfl⟩
              rw [hR] at hrd
              obtain ⟨z1, z2, z3⟩ := zs_at hz j
              have hCC : fsN s U (lpN s cols sig β γ (2 * j) (zNx zs j) R) (rpN s cols X β γ (2 * j) (zAt zs j) R) = ckC s U X β γ cols sig zs j := by unfold ckC; rw [hR]
              simp only [↓PX, SX, SYX, EY, simprocAttr, TYX, UX, hcz, hlz]
              repeat (first | refine DrawVC.intro (by kernel_rfl) ?_ | refine And.intro (by omega) ?_ | exact trivial)
              refine loop_hav ?_
              simp only [↓PX, SX, SYX, EY, simprocAttr, TYX, UX, w4]
              refine loop_go mixed (by trivial) (γ := Nat) (fun t => t ≤ R) (fun t => R - t) (fun t => [(27, iv (2 * j + t))]) (fun t => [(415, .box (eC (lpN s cols sig β γ (2 * j) (zNx zs j) t))), (419, .box (eC (rpN s cols X β γ (2 * j) (zAt zs j) t)))]) 0 (by omega)
                (St.le_of id (by simp [-List.getD_eq_getElem?_getD, SYX, iv, Tle, AVle, A0le, Mem.get, lpN, rpN, eC, Nat.add_zero]) (by simp [-List.getD_eq_getElem?_getD, SYX, Mle, Ele, Hle, Tle, AVle, A0le, Mem.get, lpN, rpN, eC, Nat.add_zero]) (by simp [SYX]) (by simp [SYX])) ?_
              intro t ht
              have w5 := wS (j := j) (by omega)
              have w6 : IntKind.i64.wrap (((j + 1 : Nat) : Int) * 2) = ((2 * j + 2 : Nat) : Int) := by rw [wI (by omega) (by omega)]; omega
              have wm : min ((2 * j + 2 : Nat) : Int) (cols.length : Int) = ((min (2 * j + 2) cols.length : Nat) : Int) := by omega
              simp only [↓PX, SX, SYX, EY, simprocAttr, TYX, UX, w5, w6]
              refine ExVC.intro _ (X_min rfl rfl) ?_
              rw [wm, ← hrd]
              simp only [↓PX, SX, SYX, EY, simprocAttr, TYX, UX]
              refine cond_split (fun h1 => ?_) (fun h1 => ?_)
              · have h1 : t < R := by
                  have := of_decide_eq_true h1
                  omega
                have hic : 2 * j + t < cols.length := by omega
                have his : 2 * j + t < sig.length := by omega
                have ld1 := eL_ld hic
                have ld2 := eL_ld his
                have hsl : (tab cols.length (pw s 1 (dlN s))).length = cols.length := tab_len
                have hid : 2 * j + t < (tab cols.length (pw s 1 (dlN s))).length := by omega
                have ld3 := eL_ld hid
                rw [tab_at hic] at ld3
                have hlw : lpN s cols sig β γ (2 * j) (zNx zs j) t < W256 := by
                  cases t with
                  | zero => exact z2
                  | succ t => exact md_w s _
                have hrw : rpN s cols X β γ (2 * j) (zAt zs j) t < W256 := by
                  cases t with
                  | zero => exact z1
                  | succ t => exact md_w s _
                have ct := u_tmof s β γ (cols.getD (2 * j + t) 0) (sig.getD (2 * j + t) 0) hβ hγ (getD_lt hc hic) (getD_lt hs his)
                have ct2 := u_tmof s β γ (cols.getD (2 * j + t) 0) (pw s 1 (dlN s) (2 * j + t) * X % md s) hβ hγ (getD_lt hc hic) (md_w s _)
                have em : lpN s cols sig β γ (2 * j) (zNx zs j) t * tmN s (cols.getD (2 * j + t) 0) β (sig.getD (2 * j + t) 0) γ % md s = lpN s cols sig β γ (2 * j) (zNx zs j) (t + 1) := rfl
                have em2 : rpN s cols X β γ (2 * j) (zAt zs j) t * tmN s (cols.getD (2 * j + t) 0) β (pw s 1 (dlN s) (2 * j + t) * X % md s) γ % md s = rpN s cols X β γ (2 * j) (zAt zs j) (t + 1) := rfl
                have cm := u_Mul s _ _ hlw (tmN_w s (cols.getD (2 * j + t) 0) β (sig.getD (2 * j + t) 0) γ)
                have cm2 := u_Mul s _ _ hrw (tmN_w s (cols.getD (2 * j + t) 0) β (pw s 1 (dlN s) (2 * j + t) * X % md s) γ)
                rw [em] at cm
                rw [em2] at cm2
                simp only [↓PX, SX, SYX, EY, simprocAttr, TYX, UX, ld1, ld2]
                repeat (first | refine DrawVC.intro (by kernel_rfl) ?_ | refine And.intro (by omega) ?_ | exact trivial)
                refine CallVC.intro (ct) ⟨rfl, rfl, rfl, trivial⟩ rfl rfl ?_
                simp only [↓PX, SX, SYX, EY, simprocAttr, TYX, UX]
                refine CallVC.intro (cm) ⟨rfl, rfl, rfl, trivial⟩ rfl rfl ?_
                simp only [↓PX, SX, SYX, EY, simprocAttr, TYX, UX, ld1, ld3, hsl]
                repeat (first | refine DrawVC.intro (by kernel_rfl) ?_ | refine And.intro (by omega) ?_ | exact trivial)
                refine CallVC.intro (u_Mul s (pw s 1 (dlN s) (2 * j + t)) X (pw_w (by decide) _) hX) ⟨rfl, rfl, rfl, trivial⟩ rfl rfl ?_
                simp only [↓PX, SX, SYX, EY, simprocAttr, TYX, UX]
                refine CallVC.intro (ct2) ⟨rfl, rfl, rfl, trivial⟩ rfl rfl ?_
                simp only [↓PX, SX, SYX, EY, simprocAttr, TYX, UX]
                refine CallVC.intro (cm2) ⟨rfl, rfl, rfl, trivial⟩ rfl rfl ?_
                simp only [↓PX, SX, SYX, EY, simprocAttr, TYX, UX, wS (j := 2 * j + t) (by omega)]
                exact ⟨t + 1, by omega, by omega, (St.le_of id (by simp [-List.getD_eq_getElem?_getD, SYX, iv, Tle, AVle, A0le, Mem.get, eC, Nat.add_assoc]) (by simp [-List.getD_eq_getElem?_getD, SYX, Mle, Ele, Hle, Tle, AVle, A0le, Mem.get, eC, Nat.add_assoc]) (by simp [SYX]) (by simp [SYX]))⟩
              · have h1 : t = R := by
                  have := of_decide_eq_false h1
                  omega
                rw [h1]
                have hlw : lpN s cols sig β γ (2 * j) (zNx zs j) R < W256 := by
                  cases R with
                  | zero => exact z2
                  | succ t => exact md_w s _
                have hrw : rpN s cols X β γ (2 * j) (zAt zs j) R < W256 := by
                  cases R with
                  | zero => exact z1
                  | succ t => exact md_w s _
                have cQ := u_Mul s U _ hU (sb_w s (lpN s cols sig β γ (2 * j) (zNx zs j) R) (rpN s cols X β γ (2 * j) (zAt zs j) R))
                rw [show U * sb (md s) (lpN s cols sig β γ (2 * j) (zNx zs j) R) (rpN s cols X β γ (2 * j) (zAt zs j) R) % md s = ckC s U X β γ cols sig zs j from hCC] at cQ
                have eap : P0 ++ tab j (ckC s U X β γ cols sig zs) ++ [ckC s U X β γ cols sig zs j] = P0 ++ tab (j + 1) (ckC s U X β γ cols sig zs) := by rw [List.append_assoc, tab_snoc]
                simp only [↓PX, SX, SYX, EY, simprocAttr, TYX, UX, eC]
                repeat (first | refine DrawVC.intro (by kernel_rfl) ?_ | refine And.intro (by omega) ?_ | exact trivial)
                refine CallVC.intro (u_Sub' s _ _ hlw hrw) ⟨rfl, rfl, rfl, trivial⟩ rfl rfl ?_
                simp only [↓PX, SX, SYX, EY, simprocAttr, TYX, UX]
                refine CallVC.intro (cQ) ⟨rfl, rfl, rfl, trivial⟩ rfl rfl ?_
                simp only [↓PX, SX, SYX, EY, simprocAttr, TYX, UX, eap, wS (j := j) (by omega)]
                repeat (first | refine DrawVC.intro (by kernel_rfl) ?_ | refine And.intro (by omega) ?_ | exact trivial)
                exact ⟨j + 1, by omega, by omega, (St.le_of (ren [(351, 515)]) (by simp [-List.getD_eq_getElem?_getD, SYX, iv, ren, Tle, AVle, A0le, Mem.get, Nat.add_assoc]) (by simp [-List.getD_eq_getElem?_getD, SYX, ren, Mle, Ele, Mem.get, Nat.add_assoc]) (by simp [SYX, ren]) (by simp [SYX]))⟩
            · have h0 : j = zs.length := by
                have : zs.length ≤ j := by simpa using h0
                omega
              have hlen2 : (P0 ++ tab zs.length (ckC s U X β γ cols sig zs)).length = zs.length + 1 + zs.length := by rw [List.length_append, hPl, tab_len]
              rw [h0, hlen2]
              simp only [↓PX, SX, SYX, EY, simprocAttr, TYX, UX]
end Go.Sx
