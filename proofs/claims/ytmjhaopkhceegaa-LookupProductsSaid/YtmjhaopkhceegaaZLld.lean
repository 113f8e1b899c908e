/-
  LookupProducts walked. No conditions.
-/
import Derived.Test.YtmjhaopkhceegaaZLlc
import Derived.Test.YtmjhaopkhceegaaZFae
namespace Go.Sx
open Go.Proofs Go.Num
-- SY
-- TY: TYX, UX, guard_un, IOX, mv_fa, plain_s, plain_r, plain_p
set_option maxRecDepth 100000
set_option linter.unusedSimpArgs false
set_option pp.deepTerms true
set_option pp.maxSteps 100000
/-- A case: four lists, two challenges, coins. -/
def XN (y0 y1 y2 y3 y4 : Value) (β γ : Nat) : Value := Value.agg [y0, y1, y2, y3, u64 (L0 β), u64 (L1 β), u64 (L2 β), u64 (L3 β), u64 (L0 γ), u64 (L1 γ), u64 (L2 γ), u64 (L3 γ), y4].toArray
/-- What its slices show. -/
structure XR (y0 y1 y2 y3 y4 : Value) (i t so ma cs : List Nat) (w : World) : Prop where
  h0 : ReadsSlice w y0 i.length 4 (LC eC i)
  h1 : ReadsSlice w y1 t.length 4 (LC eC t)
  h2 : ReadsSlice w y2 so.length 4 (LC eC so)
  h3 : ReadsSlice w y3 ma.length 4 (LC eC ma)
  h4 : ReadsSlice w y4 cs.length 4 (LC eC cs)
theorem pdE_ok {s k : Int} {β γ : Nat} {i t so ma cs : List Nat} (h : pdE s k β γ i t so ma cs = 0) : kn s = true ∧ 3 ≤ k ∧ k ≤ 5 ∧ 3 ≤ cs.length := by
  unfold pdE at h
  by_cases h0 : kn s = true
  · rw [if_pos h0] at h
    by_cases h1 : 3 ≤ k ∧ k ≤ 5
    · rw [if_pos h1] at h
      by_cases h2 : i.length = pdN k - 4 ∧ t.length = pdN k - 4 ∧ so.length = pdN k - 4 ∧ ma.length = pdN k - 4
      · rw [if_pos h2] at h
        cases h3 : pdBad s β γ so ma (pdN k - 4) with
        | true => rw [h3, if_pos rfl] at h; cases h
        | false =>
          rw [h3, if_neg (by decide)] at h
          by_cases h4 : cs.length < 3
          · rw [if_pos h4] at h; cases h
          · exact ⟨h0, h1.1, h1.2, by omega⟩
      · rw [if_neg h2] at h; cases h
    · rw [if_neg h1] at h; cases h
  · rw [if_neg h0] at h; cases h
theorem pdL_w {s k : Int} {β γ : Nat} {i t so ma cs : List Nat} : ∀ z ∈ pdL s k β γ i t so ma cs, z < W256 := by
  intro z hz
  unfold pdL at hz
  by_cases h : pdE s k β γ i t so ma cs = 0
  · rw [if_pos h, List.mem_append] at hz
    rcases hz with hz | hz
    · exact tab_w (fun _ => pdZ_w _ _ _ _ _ _ _ _) z hz
    · obtain ⟨_, _, rfl⟩ := List.mem_map.1 hz; exact md_w s _
  · rw [if_neg h] at hz; cases hz
theorem pdL_len {s k : Int} {β γ : Nat} {i t so ma cs : List Nat} : (pdL s k β γ i t so ma cs).length ≤ 1000 := by
  unfold pdL
  by_cases h : pdE s k β γ i t so ma cs = 0
  · obtain ⟨_, h1, h2, _⟩ := pdE_ok h
    rw [if_pos h, List.length_append, tab_len, List.length_map, List.length_take]
    have : k = 3 ∨ k = 4 ∨ k = 5 := by omega
    have : pdN k ≤ 32 := by rcases this with rfl | rfl | rfl <;> decide
    omega
  · rw [if_neg h]; exact Nat.zero_le _
set_option maxHeartbeats 4000000 in
theorem c_LookupProducts (s k : Int) (β γ : Nat) (i t so ma cs : List Nat) (y0 y1 y2 y3 y4 : Value) (hβ : β < W256) (hγ : γ < W256) (hi : ∀ z ∈ i, z < W256) (ht : ∀ z ∈ t, z < W256) (hso : ∀ z ∈ so, z < W256) (hma : ∀ z ∈ ma, z < W256) (hcs : ∀ z ∈ cs, z < W256)
    (hbi : i.length * 32 ≤ 140737488351232) (hbt : t.length * 32 ≤ 140737488351232) (hbs : so.length * 32 ≤ 140737488351232) (hbm : ma.length * 32 ≤ 140737488351232) (hbc : cs.length * 32 ≤ 140737488351232) (hy : ∃ w, XR y0 y1 y2 y3 y4 i t so ma cs w) :
    Contract Try.prog 7 [.val (.int .i64 s), .val (.int .i64 k), .fa (XN y0 y1 y2 y3 y4 β γ) (XR y0 y1 y2 y3 y4 i t so ma cs)] [.val (.bool true)] := by
  unfold XN
  obtain ⟨w9, hy9⟩ := hy
  obtain ⟨o0, k0⟩ := reads_one hy9.h0
  obtain ⟨o1, k1⟩ := reads_one hy9.h1
  obtain ⟨o2, k2⟩ := reads_one hy9.h2
  obtain ⟨o3, k3⟩ := reads_one hy9.h3
  obtain ⟨o4, k4⟩ := reads_one hy9.h4
  have j0 : y0.cells.toList = [y0] := by rw [k0]
  have j1 : y1.cells.toList = [y1] := by rw [k1]
  have j2 : y2.cells.toList = [y2] := by rw [k2]
  have j3 : y3.cells.toList = [y3] := by rw [k3]
  have j4 : y4.cells.toList = [y4] := by rw [k4]
  have s1 : IntKind.i64.wrap ((i.length : Int) + (t.length : Int)) = ((i.length + t.length : Nat) : Int) := by rw [wI (by omega) (by omega)]; omega
  have s2 : IntKind.i64.wrap (((i.length + t.length : Nat) : Int) + (so.length : Int)) = ((i.length + t.length + so.length : Nat) : Int) := by rw [wI (by omega) (by omega)]; omega
  have s3 : IntKind.i64.wrap (((i.length + t.length + so.length : Nat) : Int) + (ma.length : Int)) = ((i.length + t.length + so.length + ma.length : Nat) : Int) := by rw [wI (by omega) (by omega)]; omega
  cases d0 : decide ((300 : Int) < ((i.length + t.length + so.length + ma.length : Nat) : Int)) with
  | true =>
    refine contract_of (N := _) (vars := _) (c := bodyOf Try.f7) Try.func7 (body_eq rfl) rfl rfl (by rfl) mixed _ _ trivial 1000 ?_
    simp only [bodyOf, Try.f7, Option.getD_some, argA, argE, List.length_cons, List.length_nil, Nat.reduceAdd, Nat.reduceSub, List.replicate, List.cons_append, List.nil_append]
    simp only [↓PX, SX, SYX, EY, simprocAttr, TYX, UX, guard_un, IOX, mv_fa, plain_s, plain_r, plain_p]
    repeat (first | refine DrawVC.intro (by kernel_rfl) ?_ | refine And.intro (by omega) ?_ | exact trivial | simp only [↓PX, SX, SYX, EY, simprocAttr, TYX, UX, guard_un, IOX, mv_fa, plain_s, plain_r, plain_p, o0, o1, o2, o3, o4, j0, j1, j2, j3, j4])
    refine CallVC.intro (c_alive17) trivial rfl rfl ?_
    simp only [↓PX, SX, SYX, EY, simprocAttr, TYX, UX, guard_un, IOX, mv_fa, plain_s, plain_r, plain_p]
    repeat (first | refine DrawVC.intro (by kernel_rfl) ?_ | refine And.intro (by omega) ?_ | exact trivial | simp only [↓PX, SX, SYX, EY, simprocAttr, TYX, UX, guard_un, IOX, mv_fa, plain_s, plain_r, plain_p, o0, o1, o2, o3, o4, j0, j1, j2, j3, j4])
    refine ExVC.intro _ (X_lenV rfl ⟨_, Try.underlying25⟩ rfl (reads_len hy9.h0)) ?_
    repeat (first | refine DrawVC.intro (by kernel_rfl) ?_ | refine And.intro (by omega) ?_ | exact trivial | simp only [↓PX, SX, SYX, EY, simprocAttr, TYX, UX, guard_un, IOX, mv_fa, plain_s, plain_r, plain_p])
    refine ExVC.intro _ (X_lenV rfl ⟨_, Try.underlying25⟩ rfl (reads_len hy9.h1)) ?_
    repeat (first | refine DrawVC.intro (by kernel_rfl) ?_ | refine And.intro (by omega) ?_ | exact trivial | simp only [↓PX, SX, SYX, EY, simprocAttr, TYX, UX, guard_un, IOX, mv_fa, plain_s, plain_r, plain_p, s1])
    refine ExVC.intro _ (X_lenV rfl ⟨_, Try.underlying25⟩ rfl (reads_len hy9.h2)) ?_
    repeat (first | refine DrawVC.intro (by kernel_rfl) ?_ | refine And.intro (by omega) ?_ | exact trivial | simp only [↓PX, SX, SYX, EY, simprocAttr, TYX, UX, guard_un, IOX, mv_fa, plain_s, plain_r, plain_p, s1, s2])
    refine ExVC.intro _ (X_lenV rfl ⟨_, Try.underlying25⟩ rfl (reads_len hy9.h3)) ?_
    repeat (first | refine DrawVC.intro (by kernel_rfl) ?_ | refine And.intro (by omega) ?_ | exact trivial | simp only [↓PX, SX, SYX, EY, simprocAttr, TYX, UX, guard_un, IOX, mv_fa, plain_s, plain_r, plain_p, s1, s2, s3, d0])
  | false =>
    have q0 := of_decide_eq_false d0
    have cp0 := Contract.fas (c_CopyElems i (by omega)) (.cons (.slice y0 _ _ _) .nil) trivial
    have cp1 := Contract.fas (c_CopyElems t (by omega)) (.cons (.slice y1 _ _ _) .nil) trivial
    have cp2 := Contract.fas (c_CopyElems so (by omega)) (.cons (.slice y2 _ _ _) .nil) trivial
    have cp3 := Contract.fas (c_CopyElems ma (by omega)) (.cons (.slice y3 _ _ _) .nil) trivial
    have cp4 := Contract.fas (c_CopyElems cs (by omega)) (.cons (.slice y4 _ _ _) .nil) trivial
    have cs0 := Contract.fas (same_of i (by omega) hi) (.cons (.same _) (.cons (.slice y0 _ _ _) .nil)) trivial
    have cs1 := Contract.fas (same_of t (by omega) ht) (.cons (.same _) (.cons (.slice y1 _ _ _) .nil)) trivial
    have cpv := Contract.fas (v_Product s k β γ i t so ma cs y4 hβ hγ hi ht hso hma hcs (by omega) (by omega) (by omega) (by omega) hbc ⟨w9, hy9.h4⟩) (.cons (.same _) (.cons (.same _) (.cons (.slice y0 _ _ _) (.cons (.slice y1 _ _ _) (.cons (.slice y2 _ _ _) (.cons (.slice y3 _ _ _) (.cons (.same _) (.cons (.same _) (.cons (.same _) .nil))))))))) trivial
    unfold CN at cpv
    refine contract_of (N := _) (vars := _) (c := bodyOf Try.f7) Try.func7 (body_eq rfl) rfl rfl (by rfl) mixed _ _ trivial 1000 ?_
    simp only [bodyOf, Try.f7, Option.getD_some, argA, argE, List.length_cons, List.length_nil, Nat.reduceAdd, Nat.reduceSub, List.replicate, List.cons_append, List.nil_append]
    simp only [↓PX, SX, SYX, EY, simprocAttr, TYX, UX, guard_un, IOX, mv_fa, plain_s, plain_r, plain_p]
    repeat (first | refine DrawVC.intro (by kernel_rfl) ?_ | refine And.intro (by omega) ?_ | exact trivial | simp only [↓PX, SX, SYX, EY, simprocAttr, TYX, UX, guard_un, IOX, mv_fa, plain_s, plain_r, plain_p, o0, o1, o2, o3, o4, j0, j1, j2, j3, j4])
    refine CallVC.intro (c_alive17) trivial rfl rfl ?_
    simp only [↓PX, SX, SYX, EY, simprocAttr, TYX, UX, guard_un, IOX, mv_fa, plain_s, plain_r, plain_p]
    repeat (first | refine DrawVC.intro (by kernel_rfl) ?_ | refine And.intro (by omega) ?_ | exact trivial | simp only [↓PX, SX, SYX, EY, simprocAttr, TYX, UX, guard_un, IOX, mv_fa, plain_s, plain_r, plain_p, o0, o1, o2, o3, o4, j0, j1, j2, j3, j4])
    refine ExVC.intro _ (X_lenV rfl ⟨_, Try.underlying25⟩ rfl (reads_len hy9.h0)) ?_
    repeat (first | refine DrawVC.intro (by kernel_rfl) ?_ | refine And.intro (by omega) ?_ | exact trivial | simp only [↓PX, SX, SYX, EY, simprocAttr, TYX, UX, guard_un, IOX, mv_fa, plain_s, plain_r, plain_p])
    refine ExVC.intro _ (X_lenV rfl ⟨_, Try.underlying25⟩ rfl (reads_len hy9.h1)) ?_
    repeat (first | refine DrawVC.intro (by kernel_rfl) ?_ | refine And.intro (by omega) ?_ | exact trivial | simp only [↓PX, SX, SYX, EY, simprocAttr, TYX, UX, guard_un, IOX, mv_fa, plain_s, plain_r, plain_p, s1])
    refine ExVC.intro _ (X_lenV rfl ⟨_, Try.underlying25⟩ rfl (reads_len hy9.h2)) ?_
    repeat (first | refine DrawVC.intro (by kernel_rfl) ?_ | refine And.intro (by omega) ?_ | exact trivial | simp only [↓PX, SX, SYX, EY, simprocAttr, TYX, UX, guard_un, IOX, mv_fa, plain_s, plain_r, plain_p, s1, s2])
    refine ExVC.intro _ (X_lenV rfl ⟨_, Try.underlying25⟩ rfl (reads_len hy9.h3)) ?_
    repeat (first | refine DrawVC.intro (by kernel_rfl) ?_ | refine And.intro (by omega) ?_ | exact trivial | simp only [↓PX, SX, SYX, EY, simprocAttr, TYX, UX, guard_un, IOX, mv_fa, plain_s, plain_r, plain_p, s1, s2, s3, d0])
    refine CallVC.intro cp0 ⟨⟨rfl, ents_of 2 rfl (fun h => by cases h) (fun _ h => h.h0)⟩, trivial⟩ rfl rfl ?_
    repeat (first | refine DrawVC.intro (by kernel_rfl) ?_ | refine And.intro (by omega) ?_ | exact trivial | simp only [↓PX, SX, SYX, EY, simprocAttr, TYX, UX, guard_un, IOX, mv_fa, plain_s, plain_r, plain_p, o0, o1, o2, o3, o4, j0, j1, j2, j3, j4])
    refine CallVC.intro cp1 ⟨⟨rfl, ents_of 2 rfl (fun h => by cases h) (fun _ h => h.h1)⟩, trivial⟩ rfl rfl ?_
    repeat (first | refine DrawVC.intro (by kernel_rfl) ?_ | refine And.intro (by omega) ?_ | exact trivial | simp only [↓PX, SX, SYX, EY, simprocAttr, TYX, UX, guard_un, IOX, mv_fa, plain_s, plain_r, plain_p, o0, o1, o2, o3, o4, j0, j1, j2, j3, j4])
    refine CallVC.intro cp4 ⟨⟨rfl, ents_of 2 rfl (fun h => by cases h) (fun _ h => h.h4)⟩, trivial⟩ rfl rfl ?_
    repeat (first | refine DrawVC.intro (by kernel_rfl) ?_ | refine And.intro (by omega) ?_ | exact trivial | simp only [↓PX, SX, SYX, EY, simprocAttr, TYX, UX, guard_un, IOX, mv_fa, plain_s, plain_r, plain_p, o0, o1, o2, o3, o4, j0, j1, j2, j3, j4])
    refine CallVC.inline (N := _) (vars := _) (c := bodyOf Try.f22) Try.func22 (body_eq rfl) rfl rfl (by rfl) mixed (by rfl) 1 (by rfl) ?_
    simp only [bodyOf, Try.f22, Option.getD_some, List.length_cons, List.length_nil, Nat.reduceAdd, Nat.reduceSub, List.replicate, List.cons_append, List.nil_append]
    simp only [↓PX, SX, SYX, EY, simprocAttr, TYX, UX, guard_un, IOX, mv_fa, plain_s, plain_r, plain_p]
    refine CallVC.intro (u_Clone cs (by omega)) ⟨(by simp only [argMatch, SX, SYX, EY, simprocAttr, and_self, List.length_append, List.length_map, List.length_set, TYX, UX, guard_un, IOX, mv_fa, plain_s, plain_r, plain_p]), trivial⟩ rfl rfl ?_
    simp only [↓PX, SX, SYX, EY, simprocAttr, TYX, UX, guard_un, IOX, mv_fa, plain_s, plain_r, plain_p]
    refine RawVC.name 4 139 rfl rfl fun y hy => ?_
    obtain ⟨w8, hy8⟩ := hy
    obtain ⟨o7, k7⟩ := reads_one hy8
    have k8 : y.cells.toList = [y] := by rw [k7]
    have cpu := u_Product s k β γ i t so ma cs y hβ hγ hi ht hso hma hcs (by omega) (by omega) (by omega) (by omega) hbc ⟨w8, hy8⟩
    simp only [↓PX, SX, SYX, EY, simprocAttr, TYX, UX, guard_un, IOX, mv_fa, plain_s, plain_r, plain_p, o7, k7, k8]
    refine DrawVC.only 23 (by kernel_rfl) ?_
    simp only [↓PX, SX, SYX, EY, simprocAttr, TYX, UX, guard_un, IOX, mv_fa, plain_s, plain_r, plain_p, o0, o1, o2, o3, o4, j0, j1, j2, j3, j4]
    refine CallVC.intro cp2 ⟨⟨rfl, ents_of 2 rfl (fun h => by cases h) (fun _ h => h.h2)⟩, trivial⟩ rfl rfl ?_
    simp only [↓PX, SX, SYX, EY, simprocAttr, TYX, UX, guard_un, IOX, mv_fa, plain_s, plain_r, plain_p, o0, o1, o2, o3, o4, j0, j1, j2, j3, j4]
    refine CallVC.intro cp3 ⟨⟨rfl, ents_of 2 rfl (fun h => by cases h) (fun _ h => h.h3)⟩, trivial⟩ rfl rfl ?_
    simp only [↓PX, SX, SYX, EY, simprocAttr, TYX, UX, guard_un, IOX, mv_fa, plain_s, plain_r, plain_p, o0, o1, o2, o3, o4, j0, j1, j2, j3, j4]
    refine CallVC.give cpu ⟨⟨rfl, ents_of 139 rfl (fun h => by cases h) (fun _ h => h)⟩, rfl, (by simp only [argMatch, SX, SYX, EY, simprocAttr, and_self, TYX, UX, guard_un, IOX]), (by simp only [argMatch, SX, SYX, EY, simprocAttr, and_self, TYX, UX, guard_un, IOX]), (by simp only [argMatch, SX, SYX, EY, simprocAttr, and_self, TYX, UX, guard_un, IOX]), (by simp only [argMatch, SX, SYX, EY, simprocAttr, and_self, TYX, UX, guard_un, IOX]), rfl, rfl, (by simp only [argMatch, boxCells, List.drop_zero, SX, SYX, EY, simprocAttr, and_self, List.isEmpty_cons, TYX, UX, guard_un, IOX]), trivial⟩ rfl (by simp [refs]) ?_
    simp only [↓PX, SX, SYX, EY, simprocAttr, TYX, UX, guard_un, IOX, mv_fa, plain_s, plain_r, plain_p, o0, o1, o2, o3, o4, j0, j1, j2, j3, j4]
    refine CallVC.intro cpv ⟨rfl, rfl, ⟨rfl, ents_of 2 rfl (fun h => by cases h) (fun _ h => h.h0)⟩, ⟨rfl, ents_of 2 rfl (fun h => by cases h) (fun _ h => h.h1)⟩, ⟨rfl, ents_of 2 rfl (fun h => by cases h) (fun _ h => h.h2)⟩, ⟨rfl, ents_of 2 rfl (fun h => by cases h) (fun _ h => h.h3)⟩, rfl, rfl, ⟨rfl, ents_of 2 rfl (fun h => by cases h) (fun _ h => h.h4)⟩, trivial⟩ rfl rfl ?_
    simp only [↓PX, SX, SYX, EY, simprocAttr, TYX, UX, guard_un, IOX, mv_fa, plain_s, plain_r, plain_p, o0, o1, o2, o3, o4, j0, j1, j2, j3, j4]
    refine CallVC.intro (same_of (pdL s k β γ i t so ma cs) (Nat.le_trans pdL_len (by decide)) pdL_w) ⟨(by simp only [argMatch, SX, SYX, EY, simprocAttr, and_self, List.length_append, List.length_map, List.length_set, TYX, UX, guard_un, IOX, mv_fa, plain_s, plain_r, plain_p]), (by simp only [argMatch, SX, SYX, EY, simprocAttr, and_self, List.length_append, List.length_map, List.length_set, TYX, UX, guard_un, IOX, mv_fa, plain_s, plain_r, plain_p]), trivial⟩ rfl rfl ?_
    simp only [↓PX, SX, SYX, EY, simprocAttr, TYX, UX, guard_un, IOX, mv_fa, plain_s, plain_r, plain_p]

    refine CallVC.intro cs0 ⟨(by simp only [argMatch, SX, SYX, EY, simprocAttr, and_self, TYX, UX, guard_un, IOX]), ⟨rfl, ents_of 2 rfl (fun h => by cases h) (fun _ h => h.h0)⟩, trivial⟩ rfl rfl ?_
    repeat (first | refine DrawVC.intro (by kernel_rfl) ?_ | refine And.intro (by omega) ?_ | exact trivial | simp only [↓PX, SX, SYX, EY, simprocAttr, TYX, UX, guard_un, IOX, mv_fa, plain_s, plain_r, plain_p, o0, o1, o2, o3, o4, j0, j1, j2, j3, j4])
    refine CallVC.intro cs1 ⟨(by simp only [argMatch, SX, SYX, EY, simprocAttr, and_self, TYX, UX, guard_un, IOX]), ⟨rfl, ents_of 2 rfl (fun h => by cases h) (fun _ h => h.h1)⟩, trivial⟩ rfl rfl ?_
    by_cases h0 : pdE s k β γ i t so ma cs = 0
    · obtain ⟨_, _, _, hc3⟩ := pdE_ok h0
      have hJ : pdJ s k β γ i t so ma cs = 3 := by unfold pdJ; rw [if_pos h0]
      repeat (first | refine DrawVC.intro (by kernel_rfl) ?_ | refine And.intro (by omega) ?_ | exact trivial | simp only [↓PX, SX, SYX, EY, simprocAttr, TYX, UX, guard_un, IOX, mv_fa, plain_s, plain_r, plain_p, h0, hJ])
      have hy3 : ∀ w, ReadsSlice w y cs.length 4 (LC eC cs) → ReadsSlice w (sufs 4 3 y) (cs.length - 3) 4 ((LC eC cs).drop (3 * 4)) := fun w h => reads_sufs 3 (by rw [Nat.sub_add_cancel hc3]; exact h)
      obtain ⟨o9, k9⟩ := reads_one (hy3 w8 hy8)
      have k6 : (sufs 4 3 y).cells.toList = [sufs 4 3 y] := by rw [k9]
      obtain ⟨o1', c9, hsh⟩ := reads_len (hy3 w8 hy8)
      refine CallVC.inline (N := _) (vars := _) (c := bodyOf Try.f25) Try.func25 (body_eq rfl) rfl rfl (by rfl) mixed (by rfl) 1 (by rfl) ?_
      simp only [bodyOf, Try.f25, Option.getD_some, List.length_cons, List.length_nil, Nat.reduceAdd, Nat.reduceSub, List.replicate, List.cons_append, List.nil_append]
      simp only [↓PX, SX, SYX, EY, simprocAttr, TYX, UX, guard_un, IOX, mv_fa, plain_s, plain_r, plain_p, o9, k6, k9]
      repeat (first | refine DrawVC.intro (by kernel_rfl) ?_ | refine And.intro (by omega) ?_ | exact trivial | simp only [↓PX, SX, SYX, EY, simprocAttr, TYX, UX, guard_un, IOX, mv_fa, plain_s, plain_r, plain_p, o9, k6, k9])
      refine ExVC.intro _ (X_lenV rfl ⟨_, Try.underlying25⟩ rfl ⟨o1', c9, hsh⟩) ?_
      by_cases hjn : cs.length = 3
      · have c2 : (((cs.length - 3 : Nat) : Int) == 0) = true := by rw [beq_iff_eq]; omega
        repeat (first | refine DrawVC.intro (by kernel_rfl) ?_ | refine And.intro (by omega) ?_ | exact trivial | simp only [↓PX, SX, SYX, EY, simprocAttr, TYX, UX, guard_un, IOX, mv_fa, plain_s, plain_r, plain_p, c2])
        have cn := v_Next_no cs y4 hbc ⟨w9, hy9.h4⟩
        unfold CN at cn
        refine CallVC.intro cn ⟨⟨by rw [hjn]; rfl, ents_of 2 rfl (fun h => by cases h) (fun _ h => h.h4)⟩, trivial⟩ rfl rfl ?_
        repeat (first | refine DrawVC.intro (by kernel_rfl) ?_ | refine And.intro (by omega) ?_ | exact trivial | simp only [↓PX, SX, SYX, EY, simprocAttr, TYX, UX, guard_un, IOX, mv_fa, plain_s, plain_r, plain_p, o4, j4])
      · have c2 : (((cs.length - 3 : Nat) : Int) == 0) = false := by rw [beq_eq_false_iff_ne]; omega
        repeat (first | refine DrawVC.intro (by kernel_rfl) ?_ | refine And.intro (by omega) ?_ | exact trivial | simp only [↓PX, SX, SYX, EY, simprocAttr, TYX, UX, guard_un, IOX, mv_fa, plain_s, plain_r, plain_p, c2])
        refine RawVC.le (St.see_slot (i := 15) (k := 139) rfl rfl hy3) ?_
        have ldc := eL_ld (l := cs) (j := 3) (by omega)
        repeat (first | refine DrawVC.intro (by kernel_rfl) ?_ | refine And.intro (by omega) ?_ | exact trivial | simp only [↓PX, SX, SYX, EY, simprocAttr, TYX, UX, guard_un, IOX, mv_fa, plain_s, plain_r, plain_p, ldc])
        obtain ⟨a9, d9, hya, hyc⟩ := reads_addr (hy3 w8 hy8) (by omega)
        refine ⟨by rw [List.length_drop, eL_len]; omega, RawVC.ex (suf 4 (sufs 4 3 y)) (X_suf (by rfl) rfl hya (by omega) hyc) (.inl ⟨_, _, _, _, _, rfl⟩) ?_⟩
        have hy1 : ReadsSlice w8 (suf 4 (sufs 4 3 y)) (cs.length - (3 + 1)) 4 (((LC eC cs).drop (3 * 4)).drop 4) := reads_suf (by rw [show cs.length - (3 + 1) + 1 = cs.length - 3 by omega]; exact hy3 w8 hy8)
        obtain ⟨o5, k5⟩ := reads_one hy1
        have j5 : (suf 4 (sufs 4 3 y)).cells.toList = [suf 4 (sufs 4 3 y)] := by rw [k5]
        repeat (first | refine DrawVC.intro (by kernel_rfl) ?_ | refine And.intro (by omega) ?_ | exact trivial | simp only [↓PX, SX, SYX, EY, simprocAttr, TYX, UX, guard_un, IOX, mv_fa, plain_s, plain_r, plain_p, o5, k5, j5])
        have cn := v_Next cs 3 y4 (by omega) hbc ⟨w9, hy9.h4⟩
        unfold CN at cn
        refine CallVC.intro cn ⟨⟨rfl, ents_of 2 rfl (fun h => by cases h) (fun _ h => h.h4)⟩, trivial⟩ rfl rfl ?_
        have e1 := eqN_self (a := cs.getD 3 0)
        repeat (first | refine DrawVC.intro (by kernel_rfl) ?_ | refine And.intro (by omega) ?_ | exact trivial | simp only [↓PX, SX, SYX, EY, simprocAttr, TYX, UX, guard_un, IOX, mv_fa, plain_s, plain_r, plain_p, o4, j4, e1])
    · have b0 : (pdE s k β γ i t so ma cs != 0) = true := bne_iff_ne.2 h0
      repeat (first | refine DrawVC.intro (by kernel_rfl) ?_ | refine And.intro (by omega) ?_ | exact trivial | simp only [↓PX, SX, SYX, EY, simprocAttr, TYX, UX, guard_un, IOX, mv_fa, plain_s, plain_r, plain_p, b0])
end Go.Sx
