/-
  lookup.Product. No conditions.
-/
import Derived.Test.YtmjhaopkhceegaaZLkw
import Derived.Test.YtmjhaopkhceegaaZLkS
import Derived.Test.YtmjhaopkhceegaaZFad
namespace Go.Sx
open Go.Proofs Go.Num
-- SY
-- TY: TYX, UX, guard_un, IOX, plain_s, plain_r
set_option maxRecDepth 100000
set_option linter.unusedSimpArgs false
set_option pp.deepTerms true
set_option pp.maxSteps 100000
def pdD (s : Int) (β γ : Nat) (so ma : List Nat) (r : Nat) : Nat := prN s β γ (so.getD r 0) (ma.getD r 0)
/-- The product's values along the rows. -/
def pdZ (s : Int) (β γ : Nat) (i t so ma : List Nat) : Nat → Nat
  | 0 => 1
  | r + 1 => pdZ s β γ i t so ma r * inv s (pdD s β γ so ma r) % md s * prN s β γ (i.getD r 0) (t.getD r 0) % md s
def pdBad (s : Int) (β γ : Nat) (so ma : List Nat) (u : Nat) : Bool := (List.range u).any fun r => pdD s β γ so ma r == 0
def pdN (k : Int) : Nat := 2 ^ k.toNat
def pdE (s k : Int) (β γ : Nat) (i t so ma cs : List Nat) : Int :=
  if kn s then (if 3 ≤ k ∧ k ≤ 5 then (if i.length = pdN k - 4 ∧ t.length = pdN k - 4 ∧ so.length = pdN k - 4 ∧ ma.length = pdN k - 4 then
    (if pdBad s β γ so ma (pdN k - 4) then 100 else if cs.length < 3 then 81 else 0) else 50) else 60) else 20
def pdL (s k : Int) (β γ : Nat) (i t so ma cs : List Nat) : List Nat :=
  if pdE s k β γ i t so ma cs = 0 then tab (pdN k - 3) (pdZ s β γ i t so ma) ++ (cs.take 3).map (· % md s) else []
/-- How many coins were drawn. -/
def pdJ (s k : Int) (β γ : Nat) (i t so ma cs : List Nat) : Nat :=
  if pdE s k β γ i t so ma cs = 0 then 3 else if pdE s k β γ i t so ma cs = 81 then cs.length else 0
theorem pdZ_w (s : Int) (β γ : Nat) (i t so ma : List Nat) (r : Nat) : pdZ s β γ i t so ma r < W256 := by
  cases r with
  | zero => exact (by decide : (1 : Nat) < W256)
  | succ r => exact md_w s _
set_option maxHeartbeats 1600000 in
theorem u_Product (s k : Int) (β γ : Nat) (i t so ma cs : List Nat) (y : Value) (hβ : β < W256) (hγ : γ < W256) (hi : ∀ z ∈ i, z < W256) (ht : ∀ z ∈ t, z < W256) (hso : ∀ z ∈ so, z < W256) (hma : ∀ z ∈ ma, z < W256) (hcs : ∀ z ∈ cs, z < W256)
    (hbi : i.length ≤ 1000) (hbt : t.length ≤ 1000) (hbs : so.length ≤ 1000) (hbm : ma.length ≤ 1000) (hbc : cs.length * 32 ≤ 140737488351232) (hy : ∃ w, ReadsSlice w y cs.length 4 (LC eC cs)) :
    Contract Try.prog 23 [.fa (.int .i64 s) (fun w => ReadsSlice w y cs.length 4 (LC eC cs)), .val (.int .i64 k), .sl i.length 4 (LC eC i), .sl t.length 4 (LC eC t), .sl so.length 4 (LC eC so), .sl ma.length 4 (LC eC ma), .val (EN β), .val (EN γ), .ib [y] [sufs 4 (pdJ s k β γ i t so ma cs) y]]
      [.row 24 4 (pdL s k β γ i t so ma cs).length (LC eC (pdL s k β γ i t so ma cs)), .val (.int .i64 (pdE s k β γ i t so ma cs))] := by
  cases hk : kn s with
  | false =>
    have he : (eS s != 0) = true := by simp [eS, hk]
    have he2 : eS s = 20 := by simp [eS, hk]
    have e1 : pdE s k β γ i t so ma cs = 20 := by unfold pdE; rw [if_neg (by rw [hk]; decide)]
    have e2 : pdL s k β γ i t so ma cs = [] := by unfold pdL; rw [e1]; rfl
    have e3 : pdJ s k β γ i t so ma cs = 0 := by unfold pdJ; rw [e1]; rfl
    rw [e1, e2, e3]
    refine contract_of_io (N := _) (vars := _) (c := bodyOf Try.f23) Try.func23 (body_eq rfl) rfl rfl (by rfl) mixed _ _ 1000 ?_
    simp only [bodyOf, Try.f23, Option.getD_some, argA, argE, List.length_cons, List.length_nil, Nat.reduceAdd, Nat.reduceSub, List.replicate, List.cons_append, List.nil_append]
    simp only [↓PX, SX, SYX, EY, simprocAttr, TYX, UX, guard_un, IOX, plain_s, plain_r]
    refine CallVC.intro (u_Modulus s) ⟨rfl, trivial⟩ rfl rfl ?_
    simp only [↓PX, SX, SYX, EY, simprocAttr, TYX, UX, guard_un, IOX, plain_s, plain_r, he, he2]
    simp [ioAll, ioIds, argA, Mem.get, sufs]
  | true =>
    have he : eS s = 0 := by simp [eS, hk]
    cases d3 : decide (k < 3) with
    | true =>
      have hk3 := of_decide_eq_true d3
      have e1 : pdE s k β γ i t so ma cs = 60 := by unfold pdE; rw [if_pos hk, if_neg (by omega)]
      have e2 : pdL s k β γ i t so ma cs = [] := by unfold pdL; rw [e1]; rfl
      have e3 : pdJ s k β γ i t so ma cs = 0 := by unfold pdJ; rw [e1]; rfl
      rw [e1, e2, e3]
      refine contract_of_io (N := _) (vars := _) (c := bodyOf Try.f23) Try.func23 (body_eq rfl) rfl rfl (by rfl) mixed _ _ 1000 ?_
      simp only [bodyOf, Try.f23, Option.getD_some, argA, argE, List.length_cons, List.length_nil, Nat.reduceAdd, Nat.reduceSub, List.replicate, List.cons_append, List.nil_append]
      simp only [↓PX, SX, SYX, EY, simprocAttr, TYX, UX, guard_un, IOX, plain_s, plain_r]
      refine CallVC.intro (u_Modulus s) ⟨rfl, trivial⟩ rfl rfl ?_
      simp only [↓PX, SX, SYX, EY, simprocAttr, TYX, UX, guard_un, IOX, plain_s, plain_r, he, d3]
      simp [ioAll, ioIds, argA, Mem.get, sufs]
    | false =>
    cases d5 : decide (5 < k) with
    | true =>
      have hk5 := of_decide_eq_true d5
      have e1 : pdE s k β γ i t so ma cs = 60 := by unfold pdE; rw [if_pos hk, if_neg (by omega)]
      have e2 : pdL s k β γ i t so ma cs = [] := by unfold pdL; rw [e1]; rfl
      have e3 : pdJ s k β γ i t so ma cs = 0 := by unfold pdJ; rw [e1]; rfl
      rw [e1, e2, e3]
      refine contract_of_io (N := _) (vars := _) (c := bodyOf Try.f23) Try.func23 (body_eq rfl) rfl rfl (by rfl) mixed _ _ 1000 ?_
      simp only [bodyOf, Try.f23, Option.getD_some, argA, argE, List.length_cons, List.length_nil, Nat.reduceAdd, Nat.reduceSub, List.replicate, List.cons_append, List.nil_append]
      simp only [↓PX, SX, SYX, EY, simprocAttr, TYX, UX, guard_un, IOX, plain_s, plain_r]
      refine CallVC.intro (u_Modulus s) ⟨rfl, trivial⟩ rfl rfl ?_
      simp only [↓PX, SX, SYX, EY, simprocAttr, TYX, UX, guard_un, IOX, plain_s, plain_r, he, d3, d5]
      simp [ioAll, ioIds, argA, Mem.get, sufs]
    | false =>
      have hk3 := of_decide_eq_false d3
      have hk5 := of_decide_eq_false d5
      obtain ⟨q, rfl⟩ : ∃ q : Nat, k = (q : Int) := ⟨k.toNat, by omega⟩
      have hN : pdN q = 2 ^ q := by simp [pdN]
      have hq : 3 ≤ q ∧ q ≤ 5 := by omega
      have hn8 : 8 ≤ 2 ^ q ∧ 2 ^ q ≤ 32 := by
        obtain ⟨h1, h2⟩ := hq
        have : q = 3 ∨ q = 4 ∨ q = 5 := by omega
        rcases this with rfl | rfl | rfl <;> decide
      have hsh := shl_i (k := q) (by omega)
      obtain ⟨n, hn⟩ : ∃ n, 2 ^ q = n := ⟨_, rfl⟩
      rw [hn] at hN hn8 hsh
      have w4 : IntKind.i64.wrap ((n : Int) - 4) = ((n - 4 : Nat) : Int) := by rw [wI (by omega) (by omega)]; omega
      have e50 : ¬ (i.length = pdN q - 4 ∧ t.length = pdN q - 4 ∧ so.length = pdN q - 4 ∧ ma.length = pdN q - 4) → pdE s q β γ i t so ma cs = 50 ∧ pdL s q β γ i t so ma cs = [] ∧ pdJ s q β γ i t so ma cs = 0 := by
        intro hno
        have e1 : pdE s q β γ i t so ma cs = 50 := by unfold pdE; rw [if_pos hk, if_pos (by omega), if_neg hno]
        exact ⟨e1, by unfold pdL; rw [e1]; rfl, by unfold pdJ; rw [e1]; rfl⟩
      by_cases l0 : i.length = n - 4
      rotate_left
      · obtain ⟨e1, e2, e3⟩ := e50 (by rw [hN]; omega)
        have b0 : ((i.length : Int) != ((n - 4 : Nat) : Int)) = true := by rw [bne_iff_ne]; omega
        rw [e1, e2, e3]
        refine contract_of_io (N := _) (vars := _) (c := bodyOf Try.f23) Try.func23 (body_eq rfl) rfl rfl (by rfl) mixed _ _ 1000 ?_
        simp only [bodyOf, Try.f23, Option.getD_some, argA, argE, List.length_cons, List.length_nil, Nat.reduceAdd, Nat.reduceSub, List.replicate, List.cons_append, List.nil_append]
        simp only [↓PX, SX, SYX, EY, simprocAttr, TYX, UX, guard_un, IOX, plain_s, plain_r]
        refine CallVC.intro (u_Modulus s) ⟨rfl, trivial⟩ rfl rfl ?_
        simp only [↓PX, SX, SYX, EY, simprocAttr, TYX, UX, guard_un, IOX, plain_s, plain_r, he, d3, d5, hsh]
        repeat (first | refine DrawVC.intro (by kernel_rfl) ?_ | refine And.intro (by omega) ?_ | exact trivial)
        refine RawVC.bs4 ⟨25, 1, 24, [.slice none 0 0]⟩ (by rfl) rfl rfl rfl rfl rfl rfl isRef_s isRef_s isRef_s isRef_s ?_
        simp only [↓PX, SX, SYX, EY, simprocAttr, TYX, UX, guard_un, IOX, plain_s, plain_r]
        refine loop_rounds 1 ?_
        refine RoundsVC.step mixed trivial 1000 ?_
        simp only [↓PX, SX, SYX, EY, simprocAttr, TYX, UX, guard_un, IOX, plain_s, plain_r]
        simp only [↓PX, SX, SYX, EY, simprocAttr, TYX, UX, guard_un, IOX, plain_s, plain_r, w4, b0]
        simp [ioAll, ioIds, argA, Mem.get, sufs]
      by_cases l1 : t.length = n - 4
      rotate_left
      · obtain ⟨e1, e2, e3⟩ := e50 (by rw [hN]; omega)
        have b0 : ((i.length : Int) != ((n - 4 : Nat) : Int)) = false := by rw [l0]; simp
        have b1 : ((t.length : Int) != ((n - 4 : Nat) : Int)) = true := by rw [bne_iff_ne]; omega
        rw [e1, e2, e3]
        refine contract_of_io (N := _) (vars := _) (c := bodyOf Try.f23) Try.func23 (body_eq rfl) rfl rfl (by rfl) mixed _ _ 1000 ?_
        simp only [bodyOf, Try.f23, Option.getD_some, argA, argE, List.length_cons, List.length_nil, Nat.reduceAdd, Nat.reduceSub, List.replicate, List.cons_append, List.nil_append]
        simp only [↓PX, SX, SYX, EY, simprocAttr, TYX, UX, guard_un, IOX, plain_s, plain_r]
        refine CallVC.intro (u_Modulus s) ⟨rfl, trivial⟩ rfl rfl ?_
        simp only [↓PX, SX, SYX, EY, simprocAttr, TYX, UX, guard_un, IOX, plain_s, plain_r, he, d3, d5, hsh]
        repeat (first | refine DrawVC.intro (by kernel_rfl) ?_ | refine And.intro (by omega) ?_ | exact trivial)
        refine RawVC.bs4 ⟨25, 1, 24, [.slice none 0 0]⟩ (by rfl) rfl rfl rfl rfl rfl rfl isRef_s isRef_s isRef_s isRef_s ?_
        simp only [↓PX, SX, SYX, EY, simprocAttr, TYX, UX, guard_un, IOX, plain_s, plain_r]
        refine loop_rounds 2 ?_
        refine RoundsVC.step mixed trivial 1000 ?_
        simp only [↓PX, SX, SYX, EY, simprocAttr, TYX, UX, guard_un, IOX, plain_s, plain_r]
        simp only [↓PX, SX, SYX, EY, simprocAttr, TYX, UX, guard_un, IOX, plain_s, plain_r, w4, b0]
        refine RoundsVC.step mixed trivial 1000 ?_
        simp only [↓PX, SX, SYX, EY, simprocAttr, TYX, UX, guard_un, IOX, plain_s, plain_r]
        simp only [↓PX, SX, SYX, EY, simprocAttr, TYX, UX, guard_un, IOX, plain_s, plain_r, w4, b0, b1]
        simp [ioAll, ioIds, argA, Mem.get, sufs]
      by_cases l2 : so.length = n - 4
      rotate_left
      · obtain ⟨e1, e2, e3⟩ := e50 (by rw [hN]; omega)
        have b0 : ((i.length : Int) != ((n - 4 : Nat) : Int)) = false := by rw [l0]; simp
        have b1 : ((t.length : Int) != ((n - 4 : Nat) : Int)) = false := by rw [l1]; simp
        have b2 : ((so.length : Int) != ((n - 4 : Nat) : Int)) = true := by rw [bne_iff_ne]; omega
        rw [e1, e2, e3]
        refine contract_of_io (N := _) (vars := _) (c := bodyOf Try.f23) Try.func23 (body_eq rfl) rfl rfl (by rfl) mixed _ _ 1000 ?_
        simp only [bodyOf, Try.f23, Option.getD_some, argA, argE, List.length_cons, List.length_nil, Nat.reduceAdd, Nat.reduceSub, List.replicate, List.cons_append, List.nil_append]
        simp only [↓PX, SX, SYX, EY, simprocAttr, TYX, UX, guard_un, IOX, plain_s, plain_r]
        refine CallVC.intro (u_Modulus s) ⟨rfl, trivial⟩ rfl rfl ?_
        simp only [↓PX, SX, SYX, EY, simprocAttr, TYX, UX, guard_un, IOX, plain_s, plain_r, he, d3, d5, hsh]
        repeat (first | refine DrawVC.intro (by kernel_rfl) ?_ | refine And.intro (by omega) ?_ | exact trivial)
        refine RawVC.bs4 ⟨25, 1, 24, [.slice none 0 0]⟩ (by rfl) rfl rfl rfl rfl rfl rfl isRef_s isRef_s isRef_s isRef_s ?_
        simp only [↓PX, SX, SYX, EY, simprocAttr, TYX, UX, guard_un, IOX, plain_s, plain_r]
        refine loop_rounds 3 ?_
        refine RoundsVC.step mixed trivial 1000 ?_
        simp only [↓PX, SX, SYX, EY, simprocAttr, TYX, UX, guard_un, IOX, plain_s, plain_r]
        simp only [↓PX, SX, SYX, EY, simprocAttr, TYX, UX, guard_un, IOX, plain_s, plain_r, w4, b0]
        refine RoundsVC.step mixed trivial 1000 ?_
        simp only [↓PX, SX, SYX, EY, simprocAttr, TYX, UX, guard_un, IOX, plain_s, plain_r]
        simp only [↓PX, SX, SYX, EY, simprocAttr, TYX, UX, guard_un, IOX, plain_s, plain_r, w4, b0, b1]
        refine RoundsVC.step mixed trivial 1000 ?_
        simp only [↓PX, SX, SYX, EY, simprocAttr, TYX, UX, guard_un, IOX, plain_s, plain_r]
        simp only [↓PX, SX, SYX, EY, simprocAttr, TYX, UX, guard_un, IOX, plain_s, plain_r, w4, b0, b1, b2]
        simp [ioAll, ioIds, argA, Mem.get, sufs]
      by_cases l3 : ma.length = n - 4
      rotate_left
      · obtain ⟨e1, e2, e3⟩ := e50 (by rw [hN]; omega)
        have b0 : ((i.length : Int) != ((n - 4 : Nat) : Int)) = false := by rw [l0]; simp
        have b1 : ((t.length : Int) != ((n - 4 : Nat) : Int)) = false := by rw [l1]; simp
        have b2 : ((so.length : Int) != ((n - 4 : Nat) : Int)) = false := by rw [l2]; simp
        have b3 : ((ma.length : Int) != ((n - 4 : Nat) : Int)) = true := by rw [bne_iff_ne]; omega
        rw [e1, e2, e3]
        refine contract_of_io (N := _) (vars := _) (c := bodyOf Try.f23) Try.func23 (body_eq rfl) rfl rfl (by rfl) mixed _ _ 1000 ?_
        simp only [bodyOf, Try.f23, Option.getD_some, argA, argE, List.length_cons, List.length_nil, Nat.reduceAdd, Nat.reduceSub, List.replicate, List.cons_append, List.nil_append]
        simp only [↓PX, SX, SYX, EY, simprocAttr, TYX, UX, guard_un, IOX, plain_s, plain_r]
        refine CallVC.intro (u_Modulus s) ⟨rfl, trivial⟩ rfl rfl ?_
        simp only [↓PX, SX, SYX, EY, simprocAttr, TYX, UX, guard_un, IOX, plain_s, plain_r, he, d3, d5, hsh]
        repeat (first | refine DrawVC.intro (by kernel_rfl) ?_ | refine And.intro (by omega) ?_ | exact trivial)
        refine RawVC.bs4 ⟨25, 1, 24, [.slice none 0 0]⟩ (by rfl) rfl rfl rfl rfl rfl rfl isRef_s isRef_s isRef_s isRef_s ?_
        simp only [↓PX, SX, SYX, EY, simprocAttr, TYX, UX, guard_un, IOX, plain_s, plain_r]
        refine loop_rounds 4 ?_
        refine RoundsVC.step mixed trivial 1000 ?_
        simp only [↓PX, SX, SYX, EY, simprocAttr, TYX, UX, guard_un, IOX, plain_s, plain_r]
        simp only [↓PX, SX, SYX, EY, simprocAttr, TYX, UX, guard_un, IOX, plain_s, plain_r, w4, b0]
        refine RoundsVC.step mixed trivial 1000 ?_
        simp only [↓PX, SX, SYX, EY, simprocAttr, TYX, UX, guard_un, IOX, plain_s, plain_r]
        simp only [↓PX, SX, SYX, EY, simprocAttr, TYX, UX, guard_un, IOX, plain_s, plain_r, w4, b0, b1]
        refine RoundsVC.step mixed trivial 1000 ?_
        simp only [↓PX, SX, SYX, EY, simprocAttr, TYX, UX, guard_un, IOX, plain_s, plain_r]
        simp only [↓PX, SX, SYX, EY, simprocAttr, TYX, UX, guard_un, IOX, plain_s, plain_r, w4, b0, b1, b2]
        refine RoundsVC.step mixed trivial 1000 ?_
        simp only [↓PX, SX, SYX, EY, simprocAttr, TYX, UX, guard_un, IOX, plain_s, plain_r]
        simp only [↓PX, SX, SYX, EY, simprocAttr, TYX, UX, guard_un, IOX, plain_s, plain_r, w4, b0, b1, b2, b3]
        simp [ioAll, ioIds, argA, Mem.get, sufs]
      have b0 : ((i.length : Int) != ((n - 4 : Nat) : Int)) = false := by rw [l0]; simp
      have b1 : ((t.length : Int) != ((n - 4 : Nat) : Int)) = false := by rw [l1]; simp
      have b2 : ((so.length : Int) != ((n - 4 : Nat) : Int)) = false := by rw [l2]; simp
      have b3 : ((ma.length : Int) != ((n - 4 : Nat) : Int)) = false := by rw [l3]; simp
      refine contract_of_io (N := _) (vars := _) (c := bodyOf Try.f23) Try.func23 (body_eq rfl) rfl rfl (by rfl) mixed _ _ 1000 ?_
      simp only [bodyOf, Try.f23, Option.getD_some, argA, argE, List.length_cons, List.length_nil, Nat.reduceAdd, Nat.reduceSub, List.replicate, List.cons_append, List.nil_append]
      simp only [↓PX, SX, SYX, EY, simprocAttr, TYX, UX, guard_un, IOX, plain_s, plain_r]
      refine CallVC.intro (u_Modulus s) ⟨rfl, trivial⟩ rfl rfl ?_
      simp only [↓PX, SX, SYX, EY, simprocAttr, TYX, UX, guard_un, IOX, plain_s, plain_r, he, d3, d5, hsh]
      repeat (first | refine DrawVC.intro (by kernel_rfl) ?_ | refine And.intro (by omega) ?_ | exact trivial)
      refine RawVC.bs4 ⟨25, 1, 24, [.slice none 0 0]⟩ (by rfl) rfl rfl rfl rfl rfl rfl isRef_s isRef_s isRef_s isRef_s ?_
      simp only [↓PX, SX, SYX, EY, simprocAttr, TYX, UX, guard_un, IOX, plain_s, plain_r]
      refine loop_rounds 5 ?_
      refine RoundsVC.step mixed trivial 1000 ?_
      simp only [↓PX, SX, SYX, EY, simprocAttr, TYX, UX, guard_un, IOX, plain_s, plain_r]
      simp only [↓PX, SX, SYX, EY, simprocAttr, TYX, UX, guard_un, IOX, plain_s, plain_r, w4, b0, b1, b2, b3]
      refine RoundsVC.step mixed trivial 1000 ?_
      simp only [↓PX, SX, SYX, EY, simprocAttr, TYX, UX, guard_un, IOX, plain_s, plain_r]
      simp only [↓PX, SX, SYX, EY, simprocAttr, TYX, UX, guard_un, IOX, plain_s, plain_r, w4, b0, b1, b2, b3]
      refine RoundsVC.step mixed trivial 1000 ?_
      simp only [↓PX, SX, SYX, EY, simprocAttr, TYX, UX, guard_un, IOX, plain_s, plain_r]
      simp only [↓PX, SX, SYX, EY, simprocAttr, TYX, UX, guard_un, IOX, plain_s, plain_r, w4, b0, b1, b2, b3]
      refine RoundsVC.step mixed trivial 1000 ?_
      simp only [↓PX, SX, SYX, EY, simprocAttr, TYX, UX, guard_un, IOX, plain_s, plain_r]
      simp only [↓PX, SX, SYX, EY, simprocAttr, TYX, UX, guard_un, IOX, plain_s, plain_r, w4, b0, b1, b2, b3]
      refine RoundsVC.step mixed trivial 1000 ?_
      simp only [↓PX, SX, SYX, EY, simprocAttr, TYX, UX, guard_un, IOX, plain_s, plain_r]
      have hdw : ∀ r, pdD s β γ so ma r < md s := fun r => md_mod s _
      have e100 : (∃ r, r < n - 4 ∧ pdD s β γ so ma r = 0) → pdE s q β γ i t so ma cs = 100 ∧ pdL s q β γ i t so ma cs = [] ∧ pdJ s q β γ i t so ma cs = 0 := by
        rintro ⟨r, hr, h0⟩
        have hb : pdBad s β γ so ma (pdN q - 4) = true := by
          unfold pdBad; rw [List.any_eq_true]; exact ⟨r, List.mem_range.2 (by rw [hN]; exact hr), by rw [h0]; rfl⟩
        have e1 : pdE s q β γ i t so ma cs = 100 := by unfold pdE; rw [if_pos hk, if_pos (by omega), if_pos (by rw [hN]; exact ⟨l0, l1, l2, l3⟩), if_pos hb]
        exact ⟨e1, by unfold pdL; rw [e1]; rfl, by unfold pdJ; rw [e1]; rfl⟩
      have eok : (∀ r, r < n - 4 → pdD s β γ so ma r ≠ 0) → pdE s q β γ i t so ma cs = if cs.length < 3 then 81 else 0 := by
        intro h0
        have hb : pdBad s β γ so ma (pdN q - 4) = false := by
          unfold pdBad; rw [List.any_eq_false]; intro r hr; rw [beq_iff_eq]; exact h0 r (by rw [← hN]; exact List.mem_range.1 hr)
        unfold pdE; rw [if_pos hk, if_pos (by omega), if_pos (by rw [hN]; exact ⟨l0, l1, l2, l3⟩), hb]; rfl
      have wof : ∀ {l : List Nat} {r : Nat}, (∀ z ∈ l, z < W256) → l.getD r 0 < W256 := fun {l r} h => by
        rw [List.getD_eq_getElem?_getD]
        cases h0 : l[r]? with
        | none => exact (by decide : (0 : Nat) < W256)
        | some z => exact h z (List.mem_of_getElem? h0)
      refine loop_hav ?_
      simp only [↓PX, SX, SYX, EY, simprocAttr, TYX, UX, guard_un, IOX, plain_s, plain_r]
      refine loop_go mixed (by trivial) (γ := Nat) (fun r => r ≤ n - 4 ∧ ∀ j, j < r → pdD s β γ so ma j ≠ 0) (fun r => n - 4 - r) (fun r => [(74, iv r), (26, .o (.r 346 (r + 1))), (71, .o .any)]) (fun r => [(346, .row 24 4 (r + 1) (LC eC (tab (r + 1) (pdZ s β γ i t so ma))))]) 0 ⟨Nat.zero_le _, fun j hj => absurd hj (Nat.not_lt_zero _)⟩ (St.le_of id (by simp [-List.getD_eq_getElem?_getD, SYX, iv, Tle, AVle, A0le, Mem.get, LC, tab, List.range_succ, pdZ, eC]) (by simp [-List.getD_eq_getElem?_getD, SYX, Mle, Ele, Hle, Tle, AVle, A0le, Mem.get, LC, tab, List.range_succ, pdZ, eC]) (by simp [SYX]) (by simp [SYX])) ?_
      rintro r ⟨hr, hnz⟩
      by_cases h0 : r < n - 4
      · have c0 : decide ((r : Int) < (i.length : Int)) = true := decide_eq_true (by omega)
        have ldi := eL_ld (l := i) (j := r) (by omega)
        have ldt := eL_ld (l := t) (j := r) (by omega)
        have lds := eL_ld (l := so) (j := r) (by omega)
        have ldm := eL_ld (l := ma) (j := r) (by omega)
        have hlz : (tab (r + 1) (pdZ s β γ i t so ma)).length = r + 1 := tab_len
        have ldz := eL_ld (l := tab (r + 1) (pdZ s β γ i t so ma)) (j := r) (by omega)
        rw [tab_at (by omega)] at ldz
        have w5 : IntKind.i64.wrap ((r : Int) + 1) = ((r + 1 : Nat) : Int) := wS (by omega)
        have cd := u_pof s β γ (so.getD r 0) (ma.getD r 0) hβ hγ (wof hso) (wof hma)
        have cu := u_pof s β γ (i.getD r 0) (t.getD r 0) hβ hγ (wof hi) (wof ht)
        unfold TN at cd cu
        have edd : prN s β γ (so.getD r 0) (ma.getD r 0) = pdD s β γ so ma r := rfl
        rw [edd] at cd
        repeat (first | refine DrawVC.intro (by kernel_rfl) ?_ | refine And.intro (by omega) ?_ | exact trivial | simp only [↓PX, SX, SYX, EY, simprocAttr, TYX, UX, guard_un, IOX, plain_s, plain_r, c0, lds, ldm])
        refine CallVC.intro (cd) ⟨rfl, rfl, rfl, trivial⟩ rfl rfl ?_
        simp only [↓PX, SX, SYX, EY, simprocAttr, TYX, UX, guard_un, IOX, plain_s, plain_r, b_agg]
        have hdww : pdD s β γ so ma r < W256 := md_w2 (hdw r)
        have hE : eI s (pdD s β γ so ma r) = if pdD s β γ so ma r = 0 then 10 else 0 := by unfold eI; rw [hk, if_pos rfl, Nat.mod_eq_of_lt (hdw r)]
        by_cases hz0 : pdD s β γ so ma r = 0
        · rw [if_pos hz0] at hE
          obtain ⟨e1, e2, e3⟩ := e100 ⟨r, h0, hz0⟩
          rw [e1, e2, e3]
          refine CallVC.intro (u_Inv s _ hdww) ⟨rfl, rfl, trivial⟩ rfl rfl ?_
          simp only [↓PX, SX, SYX, EY, simprocAttr, TYX, UX, guard_un, IOX, plain_s, plain_r, hE]
          simp [ioAll, ioIds, argA, Mem.get, sufs]
        · rw [if_neg hz0] at hE
          have c1 := u_Mul s (pdZ s β γ i t so ma r) (inv s (pdD s β γ so ma r)) (pdZ_w s β γ i t so ma r) (md_w2 (inv_lt s _))
          have c2 := u_Mul s _ (prN s β γ (i.getD r 0) (t.getD r 0)) (md_w s (pdZ s β γ i t so ma r * inv s (pdD s β γ so ma r))) (prN_w s β γ _ _)
          have ezs : pdZ s β γ i t so ma r * inv s (pdD s β γ so ma r) % md s * prN s β γ (i.getD r 0) (t.getD r 0) % md s = pdZ s β γ i t so ma (r + 1) := rfl
          rw [ezs] at c2
          refine CallVC.intro (u_Inv s _ hdww) ⟨rfl, rfl, trivial⟩ rfl rfl ?_
          simp only [↓PX, SX, SYX, EY, simprocAttr, TYX, UX, guard_un, IOX, plain_s, plain_r, hE]
          repeat (first | refine DrawVC.intro (by kernel_rfl) ?_ | refine And.intro (by omega) ?_ | exact trivial | simp only [↓PX, SX, SYX, EY, simprocAttr, TYX, UX, guard_un, IOX, plain_s, plain_r, ldz, hlz])
          refine CallVC.intro (c1) ⟨rfl, rfl, rfl, trivial⟩ rfl rfl ?_
          simp only [↓PX, SX, SYX, EY, simprocAttr, TYX, UX, guard_un, IOX, plain_s, plain_r]
          repeat (first | refine DrawVC.intro (by kernel_rfl) ?_ | refine And.intro (by omega) ?_ | exact trivial | simp only [↓PX, SX, SYX, EY, simprocAttr, TYX, UX, guard_un, IOX, plain_s, plain_r, ldi, ldt])
          refine CallVC.intro (cu) ⟨rfl, rfl, rfl, trivial⟩ rfl rfl ?_
          simp only [↓PX, SX, SYX, EY, simprocAttr, TYX, UX, guard_un, IOX, plain_s, plain_r, b_agg]
          refine CallVC.intro (c2) ⟨rfl, rfl, rfl, trivial⟩ rfl rfl ?_
          simp only [↓PX, SX, SYX, EY, simprocAttr, TYX, UX, guard_un, IOX, plain_s, plain_r, tab_snoc]
          repeat (first | refine DrawVC.intro (by kernel_rfl) ?_ | refine And.intro (by omega) ?_ | exact trivial | simp only [↓PX, SX, SYX, EY, simprocAttr, TYX, UX, guard_un, IOX, plain_s, plain_r, tab_snoc, w5])
          exact ⟨r + 1, ⟨h0, fun j hj => by
            rcases Nat.lt_or_ge j r with h | h
            · exact hnz j h
            · have : j = r := by omega
              rw [this]; exact hz0⟩, by omega, (St.le_at [(346, 26)] (by simp [-List.getD_eq_getElem?_getD, SYX, iv, Tle, AVle, A0le, Mem.get, ren, idAt, idO, idA, List.map, Nat.add_assoc]) (by simp [-List.getD_eq_getElem?_getD, SYX, Mle, Ele, Hle, Tle, AVle, A0le, Mem.get, ren, idAt, idO, idA, List.map, Nat.add_assoc]) (by simp [SYX, ren, idAt, idO, idA, List.map, Nat.add_assoc]) (by simp [SYX]))⟩
      · have hrn : r = n - 4 := by omega
        have c0 : decide ((r : Int) < (i.length : Int)) = false := decide_eq_false (by omega)
        have e81 := eok (fun j hj => hnz j (by omega))
        have hr1 : r + 1 = n - 3 := by omega
        repeat (first | refine DrawVC.intro (by kernel_rfl) ?_ | refine And.intro (by omega) ?_ | exact trivial | simp only [↓PX, SX, SYX, EY, simprocAttr, TYX, UX, guard_un, IOX, plain_s, plain_r, c0])
        rw [hr1]
        refine loop_hav ?_
        simp only [↓PX, SX, SYX, EY, simprocAttr, TYX, UX, guard_un, IOX, plain_s, plain_r]
        refine loop_go mixed (by trivial) (γ := Nat) (fun j => j ≤ 3 ∧ j ≤ cs.length) (fun j => 3 - j) (fun j => [(26, .o (.r 346 (n - 3 + j)))]) (fun j => [(346, .row 24 4 (n - 3 + j) (LC eC (tab (n - 3) (pdZ s β γ i t so ma) ++ (cs.take j).map (· % md s)))), (8, .box [sufs 4 j y])]) 0 ⟨Nat.zero_le _, Nat.zero_le _⟩ (St.le_of id (by simp [-List.getD_eq_getElem?_getD, SYX, iv, Tle, AVle, A0le, Mem.get, sufs]) (by simp [-List.getD_eq_getElem?_getD, SYX, Mle, Ele, Hle, Tle, AVle, A0le, Mem.get, sufs]) (by simp [SYX]) (by simp [SYX])) ?_
        rintro j ⟨hj3, hjc⟩
        obtain ⟨w9, hy9⟩ := hy
        have hyj : ∀ w, ReadsSlice w y cs.length 4 (LC eC cs) → ReadsSlice w (sufs 4 j y) (cs.length - j) 4 ((LC eC cs).drop (j * 4)) := fun w h => reads_sufs j (by rw [Nat.sub_add_cancel hjc]; exact h)
        obtain ⟨o9, k9⟩ := reads_one (hyj w9 hy9)
        have hlz : (tab (n - 3) (pdZ s β γ i t so ma)).length = n - 3 := tab_len
        by_cases j3 : j < 3
        · have c1 : decide (((n - 3 + j : Nat) : Int) < (n : Int)) = true := decide_eq_true (by omega)
          repeat (first | refine DrawVC.intro (by kernel_rfl) ?_ | refine And.intro (by omega) ?_ | exact trivial | simp only [↓PX, SX, SYX, EY, simprocAttr, TYX, UX, guard_un, IOX, plain_s, plain_r, c1])
          refine CallVC.inline (N := _) (vars := _) (c := bodyOf Try.f25) Try.func25 (body_eq rfl) rfl rfl (by rfl) mixed (by rfl) 1 (by rfl) ?_
          simp only [bodyOf, Try.f25, Option.getD_some, List.length_cons, List.length_nil, Nat.reduceAdd, Nat.reduceSub, List.replicate, List.cons_append, List.nil_append]
          simp only [↓PX, SX, SYX, EY, simprocAttr, TYX, UX, guard_un, IOX, plain_s, plain_r]
          repeat (first | refine DrawVC.intro (by kernel_rfl) ?_ | refine And.intro (by omega) ?_ | exact trivial | simp only [↓PX, SX, SYX, EY, simprocAttr, TYX, UX, guard_un, IOX, plain_s, plain_r])
          obtain ⟨o1, c9, hsh⟩ := reads_len (hyj w9 hy9)
          refine ExVC.intro _ (X_lenV rfl ⟨_, Try.underlying25⟩ rfl ⟨o1, c9, hsh⟩) ?_
          by_cases hjn : j = cs.length
          · have c2 : (((cs.length - j : Nat) : Int) == 0) = true := by rw [beq_iff_eq]; omega
            rw [if_pos (by omega)] at e81
            have e2 : pdL s q β γ i t so ma cs = [] := by unfold pdL; rw [e81]; rfl
            have e3 : pdJ s q β γ i t so ma cs = j := by unfold pdJ; rw [e81, hjn]; rfl
            rw [e81, e2, e3]
            repeat (first | refine DrawVC.intro (by kernel_rfl) ?_ | refine And.intro (by omega) ?_ | exact trivial | simp only [↓PX, SX, SYX, EY, simprocAttr, TYX, UX, guard_un, IOX, plain_s, plain_r, c2])
            simp [ioAll, ioIds, argA, Mem.get]
          · have c2 : (((cs.length - j : Nat) : Int) == 0) = false := by rw [beq_eq_false_iff_ne]; omega
            repeat (first | refine DrawVC.intro (by kernel_rfl) ?_ | refine And.intro (by omega) ?_ | exact trivial | simp only [↓PX, SX, SYX, EY, simprocAttr, TYX, UX, guard_un, IOX, plain_s, plain_r, c2])
            refine RawVC.le (St.see_slot (i := 15) (k := 0) rfl rfl hyj) ?_
            have ldc := eL_ld (l := cs) (j := j) (by omega)
            repeat (first | refine DrawVC.intro (by kernel_rfl) ?_ | refine And.intro (by omega) ?_ | exact trivial | simp only [↓PX, SX, SYX, EY, simprocAttr, TYX, UX, guard_un, IOX, plain_s, plain_r, ldc])
            obtain ⟨a9, d9, hya, hyc⟩ := reads_addr (hyj w9 hy9) (by omega)
            refine ⟨by rw [List.length_drop, eL_len]; omega, RawVC.ex (suf 4 (sufs 4 j y)) (X_suf (by rfl) rfl hya (by omega) hyc) (.inl ⟨_, _, _, _, _, rfl⟩) ?_⟩
            have hy1 : ReadsSlice w9 (suf 4 (sufs 4 j y)) (cs.length - (j + 1)) 4 (((LC eC cs).drop (j * 4)).drop 4) := reads_suf (by rw [show cs.length - (j + 1) + 1 = cs.length - j by omega]; exact hyj w9 hy9)
            obtain ⟨o7, k7⟩ := reads_one hy1
            have k8 : (suf 4 (sufs 4 j y)).cells.toList = [suf 4 (sufs 4 j y)] := by rw [k7]
            have hcw : cs.getD j 0 < W256 := wof hcs
            repeat (first | refine DrawVC.intro (by kernel_rfl) ?_ | refine And.intro (by omega) ?_ | exact trivial | simp only [↓PX, SX, SYX, EY, simprocAttr, TYX, UX, guard_un, IOX, plain_s, plain_r, o7, k7, k8])
            refine CallVC.intro (u_Add s (cs.getD j 0) 0 hcw (by decide)) ⟨rfl, rfl, rfl, trivial⟩ rfl rfl ?_
            simp only [↓PX, SX, SYX, EY, simprocAttr, TYX, UX, guard_un, IOX, plain_s, plain_r]
            have etk : (cs.take (j + 1)).map (· % md s) = (cs.take j).map (· % md s) ++ [cs.getD j 0 % md s] := by rw [take_snoc (by omega), List.map_append]; rfl
            exact ⟨⟨by omega, by omega⟩, j + 1, ⟨by omega, by omega⟩, by omega, (St.le_at [(346, 26)] (by simp [-List.getD_eq_getElem?_getD, SYX, iv, Tle, AVle, A0le, Mem.get, ren, idAt, idO, idA, List.map, etk, sufs, Nat.add_assoc, List.append_assoc]) (by simp [-List.getD_eq_getElem?_getD, SYX, Mle, Ele, Hle, Tle, AVle, A0le, Mem.get, ren, idAt, idO, idA, List.map, etk, sufs, Nat.add_assoc, List.append_assoc]) (by simp [SYX, ren, idAt, idO, idA, List.map, etk, sufs, Nat.add_assoc, List.append_assoc]) (by simp [SYX]))⟩
        · have c1 : decide (((n - 3 + j : Nat) : Int) < (n : Int)) = false := decide_eq_false (by omega)
          have hj : j = 3 := by omega
          subst hj
          rw [if_neg (by omega)] at e81
          have e2 : pdL s q β γ i t so ma cs = tab (n - 3) (pdZ s β γ i t so ma) ++ (cs.take 3).map (· % md s) := by unfold pdL; rw [e81, hN]; rfl
          have e3 : pdJ s q β γ i t so ma cs = 3 := by unfold pdJ; rw [e81]; rfl
          have el : (tab (n - 3) (pdZ s β γ i t so ma) ++ (cs.take 3).map (· % md s)).length = n - 3 + 3 := by
            rw [List.length_append, hlz, List.length_map, List.length_take]; omega
          rw [e81, e2, e3, el]
          repeat (first | refine DrawVC.intro (by kernel_rfl) ?_ | refine And.intro (by omega) ?_ | exact trivial | simp only [↓PX, SX, SYX, EY, simprocAttr, TYX, UX, guard_un, IOX, plain_s, plain_r, c1])
          simp [ioAll, ioIds, argA, Mem.get]
end Go.Sx
