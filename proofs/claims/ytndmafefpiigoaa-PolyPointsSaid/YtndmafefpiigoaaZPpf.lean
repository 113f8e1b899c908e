/-
  Through of poly. No conditions.
-/
import Derived.Test.YtndmafefpiigoaaZPpe
namespace Go.Sx
open Go.Proofs Go.Num
-- SY
-- TY: TYX, UX
set_option maxRecDepth 100000
set_option linter.unusedSimpArgs false
set_option pp.deepTerms true
set_option pp.maxSteps 100000
/-- A loop that has more memory in the later rounds. -/
theorem loop_go2 {P : Program} {Q : St → Prop} {c : Code} {k : List Frm} {t t' : List AV} {m : Mem} {n : Nat} {γ : Type} (hm : P.follows .mixedOrders = true) (hk : noOps k) (G : γ → Prop) (μ : γ → Nat) (ts : γ → List (Nat × AV)) (es : γ → List (Nat × Ent)) (xs : γ → Mem) (nn : γ → Nat) (g0 : γ) (h0 : G g0)
    (hle : St.le ⟨t, m, n⟩ ⟨upT (ts g0) t', xs g0 ++ upE (es g0) m, nn g0⟩)
    (round : ∀ g, G g → vcx P Q 1000 (.code c :: .stop (fun s => ∃ g', G g' ∧ μ g' < μ g ∧ St.le s ⟨upT (ts g') t', xs g' ++ upE (es g') m, nn g'⟩) :: k) ⟨upT (ts g) t', xs g ++ upE (es g) m, nn g⟩) : LoopH P Q c k ⟨t, m, n⟩ t' :=
  loop_inv hm hk (fun g => ⟨upT (ts g) t', xs g ++ upE (es g) m, nn g⟩) G μ g0 h0 hle 1000 round
/-- The value of the i-th product of factors at the i-th point. -/
def thB (s : Int) (xs : List Nat) (i : Nat) : Nat := evp (md s) (xs.getD i 0) (zer s xs i)
/-- The polynomial through the first i points. -/
def thF (s : Int) (xs ys : List Nat) : Nat → List Nat
  | 0 => []
  | i + 1 => tp (md s) (pAdd (thF s xs ys i) (tp (md s) (pScale (zer s xs i) (sb (md s) (ys.getD i 0) (evp (md s) (xs.getD i 0) (thF s xs ys i)) * inv s (thB s xs i) % md s))))
theorem thB_md (s : Int) (xs : List Nat) (i : Nat) : thB s xs i < md s := evp_md s _ _
theorem thF_nrm {s : Int} (xs ys : List Nat) : ∀ i, Nrm (md s) (thF s xs ys i)
  | 0 => ⟨by simp [thF], .inl rfl⟩
  | i + 1 => tp_nrm s _
theorem thF_len {s : Int} (P : PR (md s)) (xs ys : List Nat) : ∀ i, (thF s xs ys i).length ≤ i
  | 0 => Nat.le_refl _
  | i + 1 => by
    have h1 := thF_len P xs ys i
    have h2 := tp_len (md s) (pAdd (thF s xs ys i) (tp (md s) (pScale (zer s xs i) (sb (md s) (ys.getD i 0) (evp (md s) (xs.getD i 0) (thF s xs ys i)) * inv s (thB s xs i) % md s))))
    have h3 := tp_len (md s) (pScale (zer s xs i) (sb (md s) (ys.getD i 0) (evp (md s) (xs.getD i 0) (thF s xs ys i)) * inv s (thB s xs i) % md s))
    have h4 : ∀ a b : List Nat, (pAdd a b).length = max a.length b.length := fun a b => by unfold pAdd; exact tab_len
    rw [h4] at h2
    have h5 : ∀ k, (pScale (zer s xs i) k).length = i + 1 := fun k => by unfold pScale; rw [List.length_map, zer_len P]
    rw [h5] at h3
    unfold thF
    omega
def thOK (s : Int) (xs : List Nat) : Bool := (List.range xs.length).all fun i => thB s xs i != 0
theorem thOK_iff {s : Int} {xs : List Nat} : thOK s xs = true ↔ ∀ i, i < xs.length → thB s xs i ≠ 0 := by
  simp [thOK]
def thL (s : Int) (xs ys : List Nat) : List Nat := if kn s && decide (xs.length = ys.length) && decide (xs.length ≤ 64) && thOK s xs then thF s xs ys xs.length else []
def thE (s : Int) (xs ys : List Nat) : Int := if kn s then (if xs.length = ys.length then (if xs.length ≤ 64 then (if thOK s xs then 0 else 10) else 70) else 50) else 20
theorem u_Through (s : Int) (xs ys : List Nat) (hx : ∀ y ∈ xs, y < W256) (hy : ∀ y ∈ ys, y < W256) (hl : xs.length * 32 ≤ 140737488355328) (hl2 : ys.length * 32 ≤ 140737488355328) :
    Contract Try.prog 40 [.val (.int .i64 s), .sl xs.length 4 (LC eC xs), .sl ys.length 4 (LC eC ys)] [.part (thL s xs ys).length 4 (LC eC (thL s xs ys)), .val (.int .i64 (thE s xs ys))] := by
  cases hk : kn s with
  | false =>
    have he : eS s = 20 := by simp [eS, hk]
    have e1 : thL s xs ys = [] := by simp [thL, hk]
    have e2 : thE s xs ys = 20 := by simp [thE, hk]
    rw [e1, e2]
    refine contract_of (N := _) (vars := _) (c := bodyOf Try.f40) Try.func40 (body_eq rfl) rfl rfl (by rfl) mixed _ _ trivial 1000 ?_
    simp only [bodyOf, Try.f40, Option.getD_some, argA, argE, List.length_cons, List.length_nil, Nat.reduceAdd, Nat.reduceSub, List.replicate, List.cons_append, List.nil_append]
    simp only [↓PX, SX, SYX, EY, simprocAttr, TYX, UX]
    refine CallVC.intro (u_known s) ⟨rfl, trivial⟩ rfl rfl ?_
    simp only [↓PX, SX, SYX, EY, simprocAttr, TYX, UX, he]
  | true =>
    have he : eS s = 0 := by simp [eS, hk]
    have P := pr_of hk
    by_cases h1 : xs.length = ys.length
    · have d1 : ((xs.length : Int) != (ys.length : Int)) = false := by simp [h1]
      by_cases h2 : xs.length ≤ 64
      · have d2 : decide ((64 : Int) < (xs.length : Int)) = false := by simp; omega
        refine contract_of (N := _) (vars := _) (c := bodyOf Try.f40) Try.func40 (body_eq rfl) rfl rfl (by rfl) mixed _ _ trivial 1000 ?_
        simp only [bodyOf, Try.f40, Option.getD_some, argA, argE, List.length_cons, List.length_nil, Nat.reduceAdd, Nat.reduceSub, List.replicate, List.cons_append, List.nil_append]
        simp only [↓PX, SX, SYX, EY, simprocAttr, TYX, UX]
        refine CallVC.intro (u_known s) ⟨rfl, trivial⟩ rfl rfl ?_
        simp only [↓PX, SX, SYX, EY, simprocAttr, TYX, UX, he, d1, d2]
        refine loop_hav ?_
        simp only [↓PX, SX, SYX, EY, simprocAttr, TYX, UX]
        refine loop_go2 mixed (by trivial) (γ := Nat) (fun i => i ≤ xs.length ∧ ∀ j, j < i → thB s xs j ≠ 0) (fun i => xs.length - i) (fun i => [(36, iv i), (10, .o (.r 83 (i + 1))), (33, .o .any), (9, match i with | 0 => .o (.v (.slice none 0 0)) | j + 1 => .o (.s 104 0 (thF s xs ys (j + 1)).length))]) (fun i => [(83, .row 25 4 (i + 1) (LC eC (zer s xs i)))]) (fun i => match i with | 0 => [] | j + 1 => [(104, .box (LC eC (thF s xs ys (j + 1))))]) (fun i => match i with | 0 => 103 | _ + 1 => 107) 0 ⟨by omega, fun j hj => absurd hj (by omega)⟩
          (St.le_of id (by simp [-List.getD_eq_getElem?_getD, SYX, iv, Tle, AVle, A0le, Mem.get, zer, LC, eC, List.flatMap]) (by simp [-List.getD_eq_getElem?_getD, SYX, Mle, Ele, Hle, Tle, AVle, A0le, Mem.get, zer, LC, eC, List.flatMap]) (by simp [SYX]) (by simp [SYX])) ?_
        intro i hi
        cases i with
        | zero =>
          have hi0 := hi.1
          simp only [↓PX, SX, SYX, EY, simprocAttr, TYX, UX]
          refine cond_split (fun h3 => ?_) (fun h3 => ?_)
          · have h3 : 0 < xs.length := by
              have := of_decide_eq_true h3
              omega
            have hxi := getD_lt hx h3
            have hyi := getD_lt hy (show 0 < ys.length by omega)
            have hb := thB_md s xs 0
            have hz := zer_len P xs 0
            have hf := thF_len P xs ys 0
            have ht := zer_take P xs 0
            have eb : (if thB s xs 0 % md s = 0 then (10 : Int) else 0) = if thB s xs 0 = 0 then 10 else 0 := by rw [Nat.mod_eq_of_lt hb]
            have c1 := u_Eval s (zer s xs 0) (xs.getD 0 0) (zer_nrm P xs 0).w hxi (by omega)
            rw [hz, show evp (md s) (xs.getD 0 0) (zer s xs 0) = thB s xs 0 from rfl] at c1
            have c2 := u_Inv s (thB s xs 0) (md_w2 hb)
            rw [show eI s (thB s xs 0) = if thB s xs 0 = 0 then 10 else 0 by unfold eI; rw [hk, if_pos rfl, eb]] at c2
            simp only [↓PX, SX, SYX, EY, simprocAttr, TYX, UX, show Value.agg (List.take 4 (LC eC xs)).toArray = EN (xs.getD 0 0) by simpa using eL_ld (j := 0) h3]
            repeat (first | refine DrawVC.intro (by kernel_rfl) ?_ | refine And.intro (by omega) ?_ | exact trivial)
            refine CallVC.intro (c1) ⟨rfl, (by simp only [argMatch, SX, SYX, EY, simprocAttr, and_self, List.length_append, List.length_map, List.length_set, TYX, UX, hz, ht]), rfl, trivial⟩ rfl rfl ?_
            simp only [↓PX, SX, SYX, EY, simprocAttr, TYX, UX, hz, ht]
            repeat (first | refine DrawVC.intro (by kernel_rfl) ?_ | refine And.intro (by omega) ?_ | exact trivial)
            by_cases hB : thB s xs 0 = 0
            · rw [if_pos hB] at c2
              have e1 : thL s xs ys = [] := by
                have : thOK s xs = false := by
                  cases hh : thOK s xs with
                  | false => rfl
                  | true => exact absurd hB (thOK_iff.1 hh 0 h3)
                simp [thL, this]
              have e2 : thE s xs ys = 10 := by
                have : thOK s xs = false := by
                  cases hh : thOK s xs with
                  | false => rfl
                  | true => exact absurd hB (thOK_iff.1 hh 0 h3)
                simp [thE, hk, h1, show ys.length ≤ 64 by omega, this]
              rw [e1, e2]
              refine CallVC.intro (c2) ⟨rfl, rfl, trivial⟩ rfl rfl ?_
              simp only [↓PX, SX, SYX, EY, simprocAttr, TYX, UX]
            · rw [if_neg hB] at c2
              have c3 := u_Eval s (thF s xs ys 0) (xs.getD 0 0) (thF_nrm xs ys 0).w hxi (by omega)
              have c4 := u_Sub' s (ys.getD 0 0) (evp (md s) (xs.getD 0 0) (thF s xs ys 0)) hyi (evp_lt s _ _)
              have c5 := u_Mul s _ (inv s (thB s xs 0)) (sb_w s (ys.getD 0 0) (evp (md s) (xs.getD 0 0) (thF s xs ys 0))) (md_w2 (inv_lt _ _))
              have c6 := u_PScale s (zer s xs 0) (sb (md s) (ys.getD 0 0) (evp (md s) (xs.getD 0 0) (thF s xs ys 0)) * inv s (thB s xs 0) % md s) (zer_nrm P xs 0).w (md_w s _) (by omega)
              have l1 := tp_len (md s) (pScale (zer s xs 0) (sb (md s) (ys.getD 0 0) (evp (md s) (xs.getD 0 0) (thF s xs ys 0)) * inv s (thB s xs 0) % md s))
              have l2 : (pScale (zer s xs 0) (sb (md s) (ys.getD 0 0) (evp (md s) (xs.getD 0 0) (thF s xs ys 0)) * inv s (thB s xs 0) % md s)).length = 0 + 1 := by unfold pScale; rw [List.length_map, hz]
              have c7 := u_PAdd s (thF s xs ys 0) (tp (md s) (pScale (zer s xs 0) (sb (md s) (ys.getD 0 0) (evp (md s) (xs.getD 0 0) (thF s xs ys 0)) * inv s (thB s xs 0) % md s))) (thF_nrm xs ys 0).w (tpW s _) (by omega) (by omega)
              rw [hz] at c6
              rw [show tp (md s) (pAdd (thF s xs ys 0) (tp (md s) (pScale (zer s xs 0) (sb (md s) (ys.getD 0 0) (evp (md s) (xs.getD 0 0) (thF s xs ys 0)) * inv s (thB s xs 0) % md s)))) = thF s xs ys (0 + 1) from rfl] at c7
              have cm := u_multiply s (zer s xs 0) (fac s (xs.getD 0 0)) (zer_nrm P xs 0).w (fac_w s _) (by rw [hz]; simp [fac])
              rw [mulR_tp P (zer_nrm P xs 0) (fac_nrm P _), show tp (md s) (pMul (zer s xs 0) (fac s (xs.getD 0 0))) = zer s xs (0 + 1) from rfl, zer_len P xs (0 + 1), hz] at cm
              refine CallVC.intro (c2) ⟨rfl, rfl, trivial⟩ rfl rfl ?_
              simp only [↓PX, SX, SYX, EY, simprocAttr, TYX, UX]
              simp only [↓PX, SX, SYX, EY, simprocAttr, TYX, UX, show Value.agg (List.take 4 (LC eC ys)).toArray = EN (ys.getD 0 0) by simpa using eL_ld (l := ys) (j := 0) (by omega)]
              repeat (first | refine DrawVC.intro (by kernel_rfl) ?_ | refine And.intro (by omega) ?_ | exact trivial)
              refine CallVC.intro ((show Contract Try.prog 30 [.val (.int .i64 s), .sl 0 4 [], .val (EN (xs.getD 0 0))] [.val (EN (evp (md s) (xs.getD 0 0) (thF s xs ys 0)))] from c3)) ⟨rfl, (by simp only [argMatch, SX, SYX, EY, simprocAttr, and_self, List.length_append, List.length_map, List.length_set, TYX, UX]), rfl, trivial⟩ rfl rfl ?_
              simp only [↓PX, SX, SYX, EY, simprocAttr, TYX, UX]
              refine CallVC.intro (c4) ⟨rfl, rfl, rfl, trivial⟩ rfl rfl ?_
              simp only [↓PX, SX, SYX, EY, simprocAttr, TYX, UX]
              repeat (first | refine DrawVC.intro (by kernel_rfl) ?_ | refine And.intro (by omega) ?_ | exact trivial)
              refine CallVC.intro (c5) ⟨rfl, rfl, rfl, trivial⟩ rfl rfl ?_
              simp only [↓PX, SX, SYX, EY, simprocAttr, TYX, UX]
              refine CallVC.intro (c6) ⟨rfl, (by simp only [argMatch, SX, SYX, EY, simprocAttr, and_self, List.length_append, List.length_map, List.length_set, TYX, UX, hz, ht]), rfl, trivial⟩ rfl rfl ?_
              simp only [↓PX, SX, SYX, EY, simprocAttr, TYX, UX, hz, ht]
              refine CallVC.intro ((show Contract Try.prog 26 [.val (.int .i64 s), .sl 0 4 [], .sl (tp (md s) (pScale (zer s xs 0) (sb (md s) (ys.getD 0 0) (evp (md s) (xs.getD 0 0) (thF s xs ys 0)) * inv s (thB s xs 0) % md s))).length 4 (LC eC (tp (md s) (pScale (zer s xs 0) (sb (md s) (ys.getD 0 0) (evp (md s) (xs.getD 0 0) (thF s xs ys 0)) * inv s (thB s xs 0) % md s))))] [.part (thF s xs ys (0 + 1)).length 4 (LC eC (thF s xs ys (0 + 1)))] from c7)) ⟨rfl, (by simp only [argMatch, SX, SYX, EY, simprocAttr, and_self, List.length_append, List.length_map, List.length_set, TYX, UX]), (by simp only [argMatch, SX, SYX, EY, simprocAttr, and_self, List.length_append, List.length_map, List.length_set, TYX, UX]), trivial⟩ rfl rfl ?_
              simp only [↓PX, SX, SYX, EY, simprocAttr, TYX, UX]
              refine CallVC.intro (u_Neg s _ hxi) ⟨rfl, rfl, trivial⟩ rfl rfl ?_
              simp only [↓PX, SX, SYX, EY, simprocAttr, TYX, UX]
              refine CallVC.intro (cm) ⟨rfl, (by simp only [argMatch, SX, SYX, EY, simprocAttr, and_self, List.length_append, List.length_map, List.length_set, TYX, UX, hz, ht, fac_len, fac_LC]), (by simp only [argMatch, SX, SYX, EY, simprocAttr, and_self, List.length_append, List.length_map, List.length_set, TYX, UX, hz, ht, fac_len, fac_LC]), trivial⟩ rfl rfl ?_
              simp only [↓PX, SX, SYX, EY, simprocAttr, TYX, UX, hz, ht, fac_len, fac_LC]
              refine ⟨0 + 1, ⟨by omega, fun j hj => ?_⟩, by omega, ?_⟩
              · by_cases hji : j = 0
                · rw [hji]; exact hB
                · exact hi.2 j (by omega)
              · exact (St.le_of (ren [(83, 307), (104, 271)]) (by simp [-List.getD_eq_getElem?_getD, SYX, iv, ren, Tle, AVle, A0le, Mem.get, Nat.zero_add]) (by simp [-List.getD_eq_getElem?_getD, SYX, ren, Mle, Ele, Mem.get, Nat.zero_add]) (by simp [SYX, ren]) (by simp [SYX]))
          · have h3 : 0 = xs.length := by
              have := of_decide_eq_false h3
              omega
            have hok : thOK s xs = true := thOK_iff.2 fun j hj => hi.2 j (by omega)
            have e1 : thL s xs ys = thF s xs ys 0 := by
              unfold thL
              rw [hk, hok, ← h3]
              simp; omega
            have e2 : thE s xs ys = 0 := by simp [thE, hk, h1, show ys.length ≤ 64 by omega, hok]
            rw [e1, e2]
            simp only [↓PX, SX, SYX, EY, simprocAttr, TYX, UX]
            exact ⟨rfl, rfl⟩
        | succ i =>
          have hi0 := hi.1
          simp only [↓PX, SX, SYX, EY, simprocAttr, TYX, UX]
          refine cond_split (fun h3 => ?_) (fun h3 => ?_)
          · have h3 : i + 1 < xs.length := by
              have := of_decide_eq_true h3
              omega
            have hxi := getD_lt hx h3
            have hyi := getD_lt hy (show i + 1 < ys.length by omega)
            have hb := thB_md s xs (i + 1)
            have hz := zer_len P xs (i + 1)
            have hf := thF_len P xs ys (i + 1)
            have ht := zer_take P xs (i + 1)
            have eb : (if thB s xs (i + 1) % md s = 0 then (10 : Int) else 0) = if thB s xs (i + 1) = 0 then 10 else 0 := by rw [Nat.mod_eq_of_lt hb]
            have c1 := u_Eval s (zer s xs (i + 1)) (xs.getD (i + 1) 0) (zer_nrm P xs (i + 1)).w hxi (by omega)
            rw [hz, show evp (md s) (xs.getD (i + 1) 0) (zer s xs (i + 1)) = thB s xs (i + 1) from rfl] at c1
            have c2 := u_Inv s (thB s xs (i + 1)) (md_w2 hb)
            rw [show eI s (thB s xs (i + 1)) = if thB s xs (i + 1) = 0 then 10 else 0 by unfold eI; rw [hk, if_pos rfl, eb]] at c2
            simp only [↓PX, SX, SYX, EY, simprocAttr, TYX, UX, eL_ld h3]
            repeat (first | refine DrawVC.intro (by kernel_rfl) ?_ | refine And.intro (by omega) ?_ | exact trivial)
            refine CallVC.intro (c1) ⟨rfl, (by simp only [argMatch, SX, SYX, EY, simprocAttr, and_self, List.length_append, List.length_map, List.length_set, TYX, UX, hz, ht]), rfl, trivial⟩ rfl rfl ?_
            simp only [↓PX, SX, SYX, EY, simprocAttr, TYX, UX, hz, ht]
            repeat (first | refine DrawVC.intro (by kernel_rfl) ?_ | refine And.intro (by omega) ?_ | exact trivial)
            by_cases hB : thB s xs (i + 1) = 0
            · rw [if_pos hB] at c2
              have e1 : thL s xs ys = [] := by
                have : thOK s xs = false := by
                  cases hh : thOK s xs with
                  | false => rfl
                  | true => exact absurd hB (thOK_iff.1 hh (i + 1) h3)
                simp [thL, this]
              have e2 : thE s xs ys = 10 := by
                have : thOK s xs = false := by
                  cases hh : thOK s xs with
                  | false => rfl
                  | true => exact absurd hB (thOK_iff.1 hh (i + 1) h3)
                simp [thE, hk, h1, show ys.length ≤ 64 by omega, this]
              rw [e1, e2]
              refine CallVC.intro (c2) ⟨rfl, rfl, trivial⟩ rfl rfl ?_
              simp only [↓PX, SX, SYX, EY, simprocAttr, TYX, UX]
            · rw [if_neg hB] at c2
              have c3 := u_Eval s (thF s xs ys (i + 1)) (xs.getD (i + 1) 0) (thF_nrm xs ys (i + 1)).w hxi (by omega)
              have c4 := u_Sub' s (ys.getD (i + 1) 0) (evp (md s) (xs.getD (i + 1) 0) (thF s xs ys (i + 1))) hyi (evp_lt s _ _)
              have c5 := u_Mul s _ (inv s (thB s xs (i + 1))) (sb_w s (ys.getD (i + 1) 0) (evp (md s) (xs.getD (i + 1) 0) (thF s xs ys (i + 1)))) (md_w2 (inv_lt _ _))
              have c6 := u_PScale s (zer s xs (i + 1)) (sb (md s) (ys.getD (i + 1) 0) (evp (md s) (xs.getD (i + 1) 0) (thF s xs ys (i + 1))) * inv s (thB s xs (i + 1)) % md s) (zer_nrm P xs (i + 1)).w (md_w s _) (by omega)
              have l1 := tp_len (md s) (pScale (zer s xs (i + 1)) (sb (md s) (ys.getD (i + 1) 0) (evp (md s) (xs.getD (i + 1) 0) (thF s xs ys (i + 1))) * inv s (thB s xs (i + 1)) % md s))
              have l2 : (pScale (zer s xs (i + 1)) (sb (md s) (ys.getD (i + 1) 0) (evp (md s) (xs.getD (i + 1) 0) (thF s xs ys (i + 1))) * inv s (thB s xs (i + 1)) % md s)).length = i + 1 + 1 := by unfold pScale; rw [List.length_map, hz]
              have c7 := u_PAdd s (thF s xs ys (i + 1)) (tp (md s) (pScale (zer s xs (i + 1)) (sb (md s) (ys.getD (i + 1) 0) (evp (md s) (xs.getD (i + 1) 0) (thF s xs ys (i + 1))) * inv s (thB s xs (i + 1)) % md s))) (thF_nrm xs ys (i + 1)).w (tpW s _) (by omega) (by omega)
              rw [hz] at c6
              rw [show tp (md s) (pAdd (thF s xs ys (i + 1)) (tp (md s) (pScale (zer s xs (i + 1)) (sb (md s) (ys.getD (i + 1) 0) (evp (md s) (xs.getD (i + 1) 0) (thF s xs ys (i + 1))) * inv s (thB s xs (i + 1)) % md s)))) = thF s xs ys (i + 1 + 1) from rfl] at c7
              have cm := u_multiply s (zer s xs (i + 1)) (fac s (xs.getD (i + 1) 0)) (zer_nrm P xs (i + 1)).w (fac_w s _) (by rw [hz]; simp [fac]; omega)
              rw [mulR_tp P (zer_nrm P xs (i + 1)) (fac_nrm P _), show tp (md s) (pMul (zer s xs (i + 1)) (fac s (xs.getD (i + 1) 0))) = zer s xs (i + 1 + 1) from rfl, zer_len P xs (i + 1 + 1), hz] at cm
              refine CallVC.intro (c2) ⟨rfl, rfl, trivial⟩ rfl rfl ?_
              simp only [↓PX, SX, SYX, EY, simprocAttr, TYX, UX]
              simp only [↓PX, SX, SYX, EY, simprocAttr, TYX, UX, eL_ld (l := ys) (j := i + 1) (by omega)]
              repeat (first | refine DrawVC.intro (by kernel_rfl) ?_ | refine And.intro (by omega) ?_ | exact trivial)
              refine CallVC.intro (c3) ⟨rfl, (by simp only [argMatch, SX, SYX, EY, simprocAttr, and_self, List.length_append, List.length_map, List.length_set, TYX, UX]), rfl, trivial⟩ rfl rfl ?_
              simp only [↓PX, SX, SYX, EY, simprocAttr, TYX, UX]
              refine CallVC.intro (c4) ⟨rfl, rfl, rfl, trivial⟩ rfl rfl ?_
              simp only [↓PX, SX, SYX, EY, simprocAttr, TYX, UX]
              repeat (first | refine DrawVC.intro (by kernel_rfl) ?_ | refine And.intro (by omega) ?_ | exact trivial)
              refine CallVC.intro (c5) ⟨rfl, rfl, rfl, trivial⟩ rfl rfl ?_
              simp only [↓PX, SX, SYX, EY, simprocAttr, TYX, UX]
              refine CallVC.intro (c6) ⟨rfl, (by simp only [argMatch, SX, SYX, EY, simprocAttr, and_self, List.length_append, List.length_map, List.length_set, TYX, UX, hz, ht]), rfl, trivial⟩ rfl rfl ?_
              simp only [↓PX, SX, SYX, EY, simprocAttr, TYX, UX, hz, ht]
              refine CallVC.intro (c7) ⟨rfl, (by simp only [argMatch, SX, SYX, EY, simprocAttr, and_self, List.length_append, List.length_map, List.length_set, TYX, UX]), (by simp only [argMatch, SX, SYX, EY, simprocAttr, and_self, List.length_append, List.length_map, List.length_set, TYX, UX]), trivial⟩ rfl rfl ?_
              simp only [↓PX, SX, SYX, EY, simprocAttr, TYX, UX]
              refine CallVC.intro (u_Neg s _ hxi) ⟨rfl, rfl, trivial⟩ rfl rfl ?_
              simp only [↓PX, SX, SYX, EY, simprocAttr, TYX, UX]
              refine CallVC.intro (cm) ⟨rfl, (by simp only [argMatch, SX, SYX, EY, simprocAttr, and_self, List.length_append, List.length_map, List.length_set, TYX, UX, hz, ht, fac_len, fac_LC, wS (j := i + 1) (by omega)]), (by simp only [argMatch, SX, SYX, EY, simprocAttr, and_self, List.length_append, List.length_map, List.length_set, TYX, UX, hz, ht, fac_len, fac_LC, wS (j := i + 1) (by omega)]), trivial⟩ rfl rfl ?_
              simp only [↓PX, SX, SYX, EY, simprocAttr, TYX, UX, hz, ht, fac_len, fac_LC, wS (j := i + 1) (by omega)]
              refine ⟨i + 1 + 1, ⟨by omega, fun j hj => ?_⟩, by omega, ?_⟩
              · by_cases hji : j = i + 1
                · rw [hji]; exact hB
                · exact hi.2 j (by omega)
              · exact (St.le_of (ren [(83, 311), (104, 275)]) (by simp [-List.getD_eq_getElem?_getD, SYX, iv, ren, Tle, AVle, A0le, Mem.get, Nat.add_assoc]) (by simp [-List.getD_eq_getElem?_getD, SYX, ren, Mle, Ele, Mem.get, Nat.add_assoc]) (by simp [SYX, ren]) (by simp [SYX]))
          · have h3 : i + 1 = xs.length := by
              have := of_decide_eq_false h3
              omega
            have hok : thOK s xs = true := thOK_iff.2 fun j hj => hi.2 j (by omega)
            have e1 : thL s xs ys = thF s xs ys (i + 1) := by
              unfold thL
              rw [hk, hok, ← h3]
              simp; omega
            have e2 : thE s xs ys = 0 := by simp [thE, hk, h1, show ys.length ≤ 64 by omega, hok]
            rw [e1, e2]
            simp only [↓PX, SX, SYX, EY, simprocAttr, TYX, UX]
      · have d2 : decide ((64 : Int) < (xs.length : Int)) = true := by simp; omega
        have e1 : thL s xs ys = [] := by simp [thL, h2]
        have e2 : thE s xs ys = 70 := by simp [thE, hk, h1] ; omega
        rw [e1, e2]
        refine contract_of (N := _) (vars := _) (c := bodyOf Try.f40) Try.func40 (body_eq rfl) rfl rfl (by rfl) mixed _ _ trivial 1000 ?_
        simp only [bodyOf, Try.f40, Option.getD_some, argA, argE, List.length_cons, List.length_nil, Nat.reduceAdd, Nat.reduceSub, List.replicate, List.cons_append, List.nil_append]
        simp only [↓PX, SX, SYX, EY, simprocAttr, TYX, UX]
        refine CallVC.intro (u_known s) ⟨rfl, trivial⟩ rfl rfl ?_
        simp only [↓PX, SX, SYX, EY, simprocAttr, TYX, UX, he, d1, d2]
    · have d1 : ((xs.length : Int) != (ys.length : Int)) = true := by simp; omega
      have e1 : thL s xs ys = [] := by simp [thL, h1]
      have e2 : thE s xs ys = 50 := by simp [thE, hk, h1]
      rw [e1, e2]
      refine contract_of (N := _) (vars := _) (c := bodyOf Try.f40) Try.func40 (body_eq rfl) rfl rfl (by rfl) mixed _ _ trivial 1000 ?_
      simp only [bodyOf, Try.f40, Option.getD_some, argA, argE, List.length_cons, List.length_nil, Nat.reduceAdd, Nat.reduceSub, List.replicate, List.cons_append, List.nil_append]
      simp only [↓PX, SX, SYX, EY, simprocAttr, TYX, UX]
      refine CallVC.intro (u_known s) ⟨rfl, trivial⟩ rfl rfl ?_
      simp only [↓PX, SX, SYX, EY, simprocAttr, TYX, UX, he, d1]
end Go.Sx
