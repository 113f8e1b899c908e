/-
  slices.Backward over elements: its closure's contract, for every loop body. The machine: a range over slices.Backward of elements. Lists of numbers as polynomials: the noughts at the end struck out. Trim, of poly and of the reference. Clone; Add and Scale of poly; Trim, Add and Scale of the reference. Eval, of poly and of the reference. No conditions.
-/
import Derived.RangeFuncNested
import Derived.RangeFuncBound
import Derived.RangeFuncCalls
import Derived.RangeFuncLeaves
import Derived.Shelf.Abstract
import Derived.Shelf.RegionOpen
import Derived.WalkKit
import Derived.OwnWalkIn
import Derived.TacticsInMore
import Derived.LoopNIn
import Derived.LoopIn
import Derived.Test.YtndmafefpiigoaaZFieldA
import Derived.Test.YtndmafefpiigoaaZMachC
import Derived.Test.YtndmafefpiigoaaZInv
namespace Go.Sx
open Go.Proofs Go.RowKit Go.Shelf
attribute [local go_sem] Oper.semAt_some
set_option maxRecDepth 100000
theorem back_in (l : Nat) (ad : Addr) (len : Nat) (hl63 : len < 9223372036854775808) (C : Nat → Nat → Value) (J : Nat → World → Prop) (Jx : World → Prop)
    (hbox : ∀ q W, J q W → ∃ o cap, W.cell? ad = some (.slice o len cap) ∧ len ≤ cap ∧ (q < len → ∃ g, o = some g ∧ ∀ t, t < 4 → W.cell? (g.add ((len - 1 - q) * 4 + t)) = some (C q t)))
    (hY : ∀ q W, J q W → q < len → YieldAt Fence.wide 0 Try.prog l #[.int .i64 ((len : Int) - 1 - q), .agg #[C q 0, C q 1, C q 2, C q 3]] W fun e W' => (e = .returned (.bool true) ∧ J (q + 1) W') ∨ (e = .returned (.bool false) ∧ Jx W'))
    (W : World) (h0 : J 0 W) : CallsIn Fence.wide 1 Try.prog 115 #[.func (.yield l) #[] #[], .pointer (some ad)] W fun e W' => (∃ v, e = .returned v) ∧ (J len W' ∨ Jx W') := by
  refine callsIn_of_wp Try.func115 rfl trivial ?_ rfl
  simp only [Try.ntmps115, List.size_toArray, List.length_cons, List.length_nil, Nat.reduceAdd, Nat.reduceSub, Array.replicate_succ, Array.replicate_zero, List.push_toArray, List.append_toArray, List.nil_append, List.cons_append]
  obtain ⟨o, cap, hb, hcap, hc⟩ := hbox 0 W h0
  gi_wp2
  gi_loopw [3] (fun i wr => ∃ q : Nat, q ≤ len ∧ i = .int .i64 ((len : Int) - 1 - q) ∧ J q wr) (fun i _ => (intOf i + 1).toNat)
  case atStart => exact ⟨0, Nat.zero_le _, by simp, h0⟩
  case round =>
    obtain ⟨q, hq, rfl, hJs⟩ := hrel
    obtain ⟨o2, cap2, hb2, hcap2, hc2⟩ := hbox q wr hJs
    by_cases hlt : q < len
    · obtain ⟨g, rfl, hg⟩ := hc2 hlt
      obtain ⟨fn, tmps, assign, body, hy, hR⟩ := hY q wr hJs hlt
      have ea : ∀ t, 0 < t → (g.add ((len - 1 - q) * 4)).add t = { block := (g.add ((len - 1 - q) * 4)).block, off := (g.add ((len - 1 - q) * 4)).off + t } := fun t ht => by
        generalize g.add ((len - 1 - q) * 4) = a
        unfold Addr.add
        rw [if_neg (by omega)]
      have h0 := hg 0 (by decide)
      have h1 := hg 1 (by decide)
      have h2 := hg 2 (by decide)
      have h3 := hg 3 (by decide)
      rw [← addr_add_add] at h1 h2 h3
      rw [ea _ (by decide)] at h1 h2 h3
      rw [Nat.add_zero] at h0
      gi_wp2
      refine hR.mono ?_
      rintro e W3 (⟨rfl, hJ3⟩ | ⟨rfl, hJx3⟩)
      · gi_wp2
        go_roundw
        case rel => exact ⟨q + 1, by omega, by simp; omega, hJ3⟩
        case measure => simp [intOf]; omega
      · gi_wp2
        refine bodyPost_ret (results_none rfl _ _ _) rfl ?_
        exact ⟨⟨_, rfl⟩, .inr hJx3⟩
    · obtain rfl : q = len := by omega
      gi_wp2
      go_end0
      exact ⟨⟨_, rfl⟩, .inl hJs⟩
end Go.Sx
namespace Go.Sx
open Go.Proofs
set_option maxRecDepth 100000
abbrev FBk : Nat := 115
/-- 'for i, v := range slices.Backward(s)': what is told between the rounds by Ms and ns (the waiting slots t0 with them), each round gone through once; behind it, and where a round breaks off. -/
theorem range_back {Q : St → Prop} {k : List Frm} {st : St} {i pi px idb kb0 : Nat} {assign body : Code} (hm : Try.prog.follows .mixedOrders = true) (j : Nat) (hj : noSav j st.m = true) (len : Nat) (hl63 : len < 9223372036854775808)
    (hT : st.T i = .o (.fn FBk [kb0])) (t0 : List AV) (ks kb kd off : Nat) (Ms : Nat → Mem) (ns : Nat → Nat) (x : Nat → Nat)
    (h0 : MLe ((st.n, .sav j st.t) :: st.m) (st.n + 4) (Ms 0) (ns 0))
    (hI : ∀ q, q ≤ len → (Ms q).get ks = some (.sav j t0) ∧ ((Ms q).get kb = some (.hdr [.s kd off len]) ∨ (off = 0 ∧ (Ms q).get kb = some (.hdr [.r kd len]))))
    (hcl : t0.getD i (.o .any) = .o (.fn FBk [kb]))
    (hD : ∀ q, q < len → ∃ e cs, (Ms q).get kd = some e ∧ e.cells = some cs ∧ (cs.drop (off + (len - 1 - q) * 4)).take 4 = eC (x q))
    (hround : ∀ q, q < len → vcx Try.prog (fun _ => False) 1000 [.code assign, .stop (fun s => vcx Try.prog (fun _ => False) 1000 [.code body, .stop (fun s' => MLe s'.m s'.n (Ms (q + 1)) (ns (q + 1))), .block idb,
        .stop (fun s' => savGo j s'.m.get (fun t' => (SVX Try.prog Q k).2 idb ⟨t', kill j s'.m, s'.n⟩) s'.m)] s)] ⟨(t0.set pi (.o (.v (.int .i64 ((len - 1 - q : Nat) : Int))))).set px (.o (.v (EN (x q)))), Ms q, ns q⟩)
    (hend : (SVX Try.prog Q k).1 ⟨t0, kill j (Ms len), ns len⟩) : SV0 Try.prog Q (.rangeFunc (.tmp i) #[pi, px] assign body) k st := by
  intro b ρ a w ⟨w0, hx, hs, hid⟩
  refine wpIn_rangeFunc ?_
  intro fn hfn
  have hTi := hs.slot i
  rw [hT] at hTi
  obtain ⟨_, hTi⟩ := hTi
  have hTi : a.eval (.tmp i) = .func (.func FBk) #[] #[.pointer (some (ρ kb0).a)] := hTi
  obtain ⟨D, hDe⟩ : ∃ D, D = w.heap.size := ⟨_, rfl⟩
  obtain ⟨rec, hrec⟩ : ∃ rec : LoopState → Option Code → Loop, rec = fun st pe => { state := st, pending := pe, fn, tmps := a.tmps, params := #[pi, px], assign, body, defers := D } := ⟨_, rfl⟩
  obtain ⟨W1, hW1⟩ : ∃ W1, (w.alloc (.deferred (some []))).alloc (.loop (rec .ready none)) = W1 := ⟨_, rfl⟩
  have hL1 : W1.heap[D + 1]? = some (.loop (rec .ready none)) := by
    rw [← hW1, hDe]; have := World.alloc_heap_new (w.alloc (.deferred (some []))) (.loop (rec .ready none)); rwa [World.size_alloc] at this
  have hK1 : W1.heap[D]? = some (.deferred (some [])) := by
    rw [← hW1, hDe]; exact (Go.RowKit.Below.heap_alloc _ _ _ (by simp)).trans (World.alloc_heap_new w _)
  have hs1 : W1.heap.size = D + 2 := by rw [← hW1, hDe]; simp
  have hf1 : Fr w W1 (fun _ => False) := by
    rw [← hW1]; exact (Fr.alloc _ _ (fun _ => False)).below (Fr.alloc w _ (fun _ => False)) (fun _ h => h)
  -- what may be written in the rounds
  let own1 : Nat → Prop := fun c => w0.own c ∧ c ≠ D ∧ c ≠ D + 1
  let sv1 : Nat → Array Value := fun x => if x = j then a.tmps else w0.sv x
  have hDown : w0.own D := w0.new D (by rw [hDe]; exact hs.below.size)
  have hLown : w0.own (D + 1) := w0.new _ (by have := hs.below.size; omega)
  have hnew : ∀ W : World, D + 2 ≤ W.heap.size → w0.w.heap.size ≤ W.heap.size → ∀ c, W.heap.size ≤ c → own1 c := fun W h1 h2 c hc => ⟨w0.new c (by omega), by omega, by omega⟩
  have hsz0 := hs.below.size
  let B1 : Base := ⟨W1, own1, hnew W1 (by omega) (by omega), sv1, []⟩
  have cellsNot : ∀ {W : World} {c : Nat} {o : Obj}, W.heap[c]? = some o → o.isCells = false → ∀ cur ty z, W.heap[c]? ≠ some (.cells cur ty z) := by
    intro W c o h1 h2 cur ty z h3
    rw [h1] at h3
    cases h3
    simp [Obj.isCells] at h2
  -- the relation between the rounds
  let J : Nat → World → Prop := fun q W => Fr w0.w W w0.own ∧ D + 2 ≤ W.heap.size ∧ (∃ ρ', SatM B1 ρ' (Ms q).get W ∧ ∀ c, ((Ms q).get c).isSome = true → c < ns q) ∧ W.heap[D + 1]? = some (.loop (rec .ready none)) ∧ W.heap[D]? = some (.deferred (some []))
  let Jx : World → Prop := fun W => Fr w0.w W w0.own ∧ D + 2 ≤ W.heap.size ∧ (∃ (ρ' : Nat → Loc) (s' : St), SatM B1 ρ' s'.m.get W ∧ (∀ c, (s'.m.get c).isSome = true → c < s'.n) ∧ savGo j s'.m.get (fun t' => (SVX Try.prog Q k).2 idb ⟨t', kill j s'.m, s'.n⟩) s'.m) ∧
    W.heap[D + 1]? = some (.loop (rec .done (some (.exit idb)))) ∧ W.heap[D]? = some (.deferred (some []))
  -- at the start
  have hstart : J 0 W1 := by
    refine ⟨hf1.below hs.below (fun _ h => h.elim), by omega, ?_, hL1, hK1⟩
    have m1 : SatM w0 ρ st.m.get W1 := hs.mem.aside hf1 (fun _ h => h.elim) (fun _ _ h => h) (fun _ _ _ _ => rfl)
    have m2 : SatM B1 ρ (Mem.get ((st.n, .sav j st.t) :: st.m)) W1 := by
      refine sav_sat m1 hid hj hs.size.symm hs.slot (fun c hc hb => ⟨hb, ?_, ?_⟩) (fun x hxj => by simp [B1, sv1, hxj]) (by simp [B1, sv1])
      · rintro rfl; obtain ⟨cur, ty, z, hc⟩ := hc; exact cellsNot hK1 rfl _ _ _ hc
      · rintro rfl; obtain ⟨cur, ty, z, hc⟩ := hc; exact cellsNot hL1 rfl _ _ _ hc
    refine h0 B1 ρ W1 m2 (Fr.refl _ _) ?_
    intro c hc
    simp only [Mem.get] at hc
    split at hc
    · omega
    · have := hid c hc; omega
  -- what a round's world tells of the slice
  have hread : ∀ q W, q ≤ len → J q W → ∃ ρ', SatM B1 ρ' (Ms q).get W ∧ (∀ c, ((Ms q).get c).isSome = true → c < ns q) ∧ t0.length = a.tmps.size ∧ (∀ y, Den ρ' (Ms q).get (t0.getD y (.o .any)) (a.tmps.getD y undef)) ∧ (ρ' kb).a = (ρ kb0).a := by
    rintro q W hq ⟨_, _, ⟨ρ', hmem, hids⟩, _, _⟩
    obtain ⟨hsav, _⟩ := hI q hq
    obtain ⟨l1, l2⟩ := hmem.sav ks j t0 hsav
    have e1 : B1.sv j = a.tmps := by simp [B1, sv1]
    rw [e1] at l1 l2
    refine ⟨ρ', hmem, hids, l1, l2, ?_⟩
    have h1 := l2 i
    rw [hcl] at h1
    have h1 : a.tmps.getD i undef = .func (.func FBk) #[] #[.pointer (some (ρ' kb).a)] := h1.2
    have h2 : a.tmps.getD i undef = .func (.func FBk) #[] #[.pointer (some (ρ kb0).a)] := hTi
    rw [h1] at h2
    simpa using h2
  refine ⟨D + 1, [{ target := .collected D, args := #[] }], W1, { target := .fn (.func FBk) #[.pointer (some (ρ kb0).a)], args := #[.func (.yield (D + 1)) #[] #[]] }, W1, FBk,
    #[.func (.yield (D + 1)) #[] #[]] ++ #[.pointer (some (ρ kb0).a)], W1, ?_, ?_, ?_, ?_, fun h => by simp [FW, Fence.wide] at h, ?_⟩
  · rw [← hW1, hrec, hDe]; exact run_enterLoop_outer _ _ _ _ _
  · simp [resolve, hTi, Deferred.ofValue]; rfl
  · intro f' _; trivial
  · have hc : callable Try.prog FBk := callable_of Try.func115 rfl rfl
    have := hc (#[.func (.yield (D + 1)) #[] #[]] ++ #[.pointer (some (ρ kb0).a)]) W1
    simp [invoke] at this ⊢
    try exact this
  · have hback := back_in (D + 1) (ρ kb0).a len hl63 (fun q t => (eC (x q)).getD t undef) (fun q W => q ≤ len ∧ J q W) Jx ?_ ?_ W1 ⟨Nat.zero_le _, hstart⟩
    · refine CallsIn.mono (show CallsIn (FW none) _ _ _ _ _ _ from callsIn_wide.2 (callsIn_wide.1 hback)) ?_
      -- behind the iterator
      have base : ∀ (W4 : World), Fr w0.w W4 w0.own → D + 2 ≤ W4.heap.size → W4.heap[D]? = some (.deferred (some [])) → ∃ w6 : Base, Ext b w6 ∧ w6.w = W4 ∧ w6.own = own1 ∧ w6.sv = w0.sv ∧ w6.df = markD D :: w0.df := by
        intro W4 hf hsz hK
        refine ⟨⟨W4, own1, hnew W4 hsz hf.size, w0.sv, markD D :: w0.df⟩, ⟨hf.below hx.below hx.own, fun c hc => hx.own c hc.1, hx.sv, ?_⟩, rfl, rfl, rfl, rfl⟩
        obtain ⟨Ds, hdf, hnd, hDs⟩ := hx.df
        refine ⟨D :: Ds, by rw [hdf]; rfl, List.nodup_cons.2 ⟨fun h => ?_, hnd⟩, fun D' h => ?_⟩
        · have := (hDs D h).1; omega
        · rcases List.mem_cons.1 h with rfl | h
          · exact ⟨by show D' < W4.heap.size; omega, fun h => h.2.1 rfl, hx.own _ hDown, hK⟩
          · obtain ⟨d1, d2, d3, d4⟩ := hDs D' h
            refine ⟨Nat.lt_of_lt_of_le d1 hf.size, fun h => d2 h.1, d3, ?_⟩
            rw [show W4.heap[D']? = w0.w.heap[D']? from hf.block D' d1 d2]
            exact d4
      have fin : ∀ (W3 W4 : World) (ρ' : Nat → Loc) (m : Mem) (n : Nat) (t' : List AV), Fr w0.w W3 w0.own → D + 2 ≤ W3.heap.size → W3.heap[D]? = some (.deferred (some [])) → (∃ r, W3.heap[D + 1]? = some (.loop r)) → (∃ o, W4 = W3.putObj (D + 1) o) →
          SatM B1 ρ' m.get W3 → (∀ c, (m.get c).isSome = true → c < n) → (∃ kk, m.get kk = some (.sav j t')) → SatN b ρ' ⟨t', kill j m, n⟩ { a with defers := [markD D] ++ a.defers } W4 := by
        rintro W3 _ ρ' m n t' hf hsz hK ⟨r, hL⟩ ⟨o, rfl⟩ hmem hids ⟨kk, hsav⟩
        have fW : Fr W3 (W3.putObj (D + 1) o) (· = D + 1) := ⟨rfl, rfl, rfl, by simp, fun c _ hc => World.putObj_heap_other hc⟩
        have f4 : Fr w0.w (W3.putObj (D + 1) o) w0.own := fW.below hf (fun c hc => by rw [hc]; exact hLown)
        obtain ⟨w6, hx6, e1, e2, e3, e4⟩ := base (W3.putObj (D + 1) o) f4 (by simpa using hsz) (by rw [World.putObj_heap_other (by omega)]; exact hK)
        obtain ⟨l1, l2⟩ := hmem.sav kk j t' hsav
        have e0 : B1.sv j = a.tmps := by simp [B1, sv1]
        rw [e0] at l1 l2
        have m4 : SatM B1 ρ' m.get (W3.putObj (D + 1) o) := hmem.aside fW (fun c hc => by rw [hc]; exact cellsNot hL rfl) (fun _ _ h => h) (fun _ _ _ _ => rfl)
        refine ⟨w6, hx6, ⟨by rw [e1]; exact Fr.refl _ _, kill_sat m4 (fun c _ hc => by rw [e2]; exact hc) (fun y hy => by rw [e3]; simp [B1, sv1, hy]), fun y => ?_, ?_, ?_⟩, fun c hc => ?_⟩
        · exact (l2 y).mono fun c hc => ⟨by rw [kill_live]; exact hc, rfl⟩
        · exact l1.symm
        · show [markD D] ++ a.defers = w6.df
          rw [e4, hs.defers]; rfl
        · rw [kill_live] at hc; exact hids c hc
      rintro e W3 ⟨⟨v, rfl⟩, ⟨hq, hJ⟩ | hJ⟩
      · obtain ⟨hf, hsz, ⟨ρ', hmem, hids⟩, hL, hK⟩ := hJ
        refine ⟨none, _, by have := run_endLoop (P := Try.prog) hL (by rw [hrec]; simp); rw [hrec] at this; exact this, ?_⟩
        exact ⟨ρ', _, fin W3 _ ρ' (Ms len) (ns len) t0 hf hsz hK ⟨_, hL⟩ ⟨_, rfl⟩ hmem hids ⟨ks, (hI len (Nat.le_refl _)).1⟩, hend⟩
      · obtain ⟨hf, hsz, ⟨ρ', s', hmem, hids, hgo⟩, hL, hK⟩ := hJ
        refine ⟨some (.exit idb), _, by have := run_endLoop (P := Try.prog) hL (by rw [hrec]; simp); rw [hrec] at this; exact this, ?_⟩
        obtain ⟨kk, t', hsav, hgo⟩ := savGo_spec hgo
        exact wpIn_exit ⟨ρ', _, fin W3 _ ρ' s'.m s'.n t' hf hsz hK ⟨_, hL⟩ ⟨_, rfl⟩ hmem hids ⟨kk, hsav⟩, hgo⟩
    · -- the slice, read between two rounds
      rintro q W ⟨hq, hJ⟩
      obtain ⟨ρ', hmem, hids, _, _, hkb⟩ := hread q W hq hJ
      obtain ⟨_, hbox⟩ := hI q hq
      have hdat : q < len → ∀ t, t < 4 → W.cell? ((ρ' kd).a.add (off + (len - 1 - q) * 4 + t)) = some ((eC (x q)).getD t undef) := by
        intro hlt t ht
        obtain ⟨e, cs, he, hcs, hx4⟩ := hD q hlt
        have hrd := (hmem.ent kd e he).reads hcs (by intro h; subst h; simp at hx4; cases hx4)
        refine hrd _ _ ?_
        have h4 : ((cs.drop (off + (len - 1 - q) * 4)).take 4)[t]? = some ((eC (x q)).getD t undef) := by
          rw [hx4, List.getD_eq_getElem?_getD, List.getElem?_eq_getElem (by rw [eC_len]; exact ht)]; rfl
        rw [List.getElem?_take, if_pos ht, List.getElem?_drop] at h4
        exact h4
      rcases hbox with hb | ⟨rfl, hb⟩
      · obtain ⟨y, hy, _, hlive, o, cap, rfl, hle, hor, hnil⟩ := hmem.hdr kb _ hb 0 _ rfl
        have e0 : (ρ' kb).a.add 0 = (ρ' kb).a := by simp [Addr.add]
        rw [e0, hkb] at hy
        refine ⟨o, cap, hy, hle, fun hlt => ?_⟩
        have ho := hor.resolve_left (by omega)
        refine ⟨_, ho, fun t ht => ?_⟩
        rw [addr_add_add, ← Nat.add_assoc]
        exact hdat hlt t ht
      · obtain ⟨y, hy, _, hlive, _, o, cap, rfl, hle, hor, hnil⟩ := hmem.hdr kb _ hb 0 _ rfl
        have e0 : (ρ' kb).a.add 0 = (ρ' kb).a := by simp [Addr.add]
        rw [e0, hkb] at hy
        refine ⟨o, cap, hy, hle, fun hlt => ?_⟩
        have ho := hor.resolve_left (by omega)
        refine ⟨_, ho, fun t ht => ?_⟩
        have := hdat hlt t ht
        rwa [Nat.zero_add] at this
    · -- one round
      rintro q W ⟨hq, hJ⟩ hlt
      obtain ⟨ρ', hmem, hids, hlen, hden, _⟩ := hread q W hq hJ
      obtain ⟨hf, hsz, _, hL, hK⟩ := hJ
      have hv : (#[Value.int .i64 ((len : Int) - 1 - q), .agg #[(eC (x q)).getD 0 undef, (eC (x q)).getD 1 undef, (eC (x q)).getD 2 undef, (eC (x q)).getD 3 undef]] : Array Value) = #[.int .i64 ((len - 1 - q : Nat) : Int), EN (x q)] := by
        have : ((len : Int) - 1 - q) = ((len - 1 - q : Nat) : Int) := by omega
        rw [this]; rfl
      rw [hv]
      have hy := run_yield (P := Try.prog) (args := #[.int .i64 ((len - 1 - q : Nat) : Int), EN (x q)]) hL (by rw [hrec]; rfl)
      rw [hrec] at hy
      refine ⟨fn, (a.tmps.setIfInBounds pi (.int .i64 ((len - 1 - q : Nat) : Int))).setIfInBounds px (EN (x q)), assign, body, hy.trans (by simp), ?_⟩
      -- the assignment
      let Bq : Base := ⟨W, own1, hnew W hsz hf.size, sv1, []⟩
      have hst : SatN Bq ρ' ⟨(t0.set pi (.o (.v (.int .i64 ((len - 1 - q : Nat) : Int))))).set px (.o (.v (EN (x q)))), Ms q, ns q⟩ ⟨(a.tmps.setIfInBounds pi (.int .i64 ((len - 1 - q : Nat) : Int))).setIfInBounds px (EN (x q)), []⟩ W := by
        refine ⟨Bq, Ext.refl _, ⟨Fr.refl _ _, hmem.aside (Fr.refl W fun _ => False) (fun _ h => h.elim) (fun _ _ h => h) (fun _ _ _ _ => rfl), fun y => ?_, ?_, rfl⟩, hids⟩
        · show Den ρ' (Ms q).get (((t0.set pi (AV.o (.v (.int .i64 ((len - 1 - q : Nat) : Int))))).set px (.o (.v (EN (x q))))).getD y (.o .any)) _
          have e1 : ∀ (t : List AV) (tm : Array Value) (p : Nat) (z : Value), t.length = tm.size → (∀ y, Den ρ' (Ms q).get (t.getD y (.o .any)) (tm.getD y undef)) → (t.set p (.o (.v z))).length = (tm.setIfInBounds p z).size ∧ ∀ y, Den ρ' (Ms q).get ((t.set p (.o (.v z))).getD y (.o .any)) ((tm.setIfInBounds p z).getD y undef) := by
            intro t tm p z hl hd
            refine ⟨by simp [hl], fun y => ?_⟩
            have h1 := setd_getD t (some p) (.o (.v z)) y
            have h2 := put_tmps ⟨tm, []⟩ (some p) z y
            simp only [setd] at h1
            simp only [Act.put] at h2
            rw [h1, h2, hl]
            split
            · exact rfl
            · exact hd y
          obtain ⟨l1, d1⟩ := e1 t0 a.tmps pi (.int .i64 ((len - 1 - q : Nat) : Int)) hlen hden
          exact (e1 _ _ px (EN (x q)) l1 d1).2 y
        · simp [hlen]
      have hr := hround q hlt
      rw [vcx_eq] at hr
      have h1 := vcs_sound hm 1000 _ _ (by trivial) hr
      rw [SVX_code] at h1
      refine roundIn_of_wpIn (F := Fence.wide) trivial ?_
      refine wpIn_mono (show assign.wpIn (FW (some (D + 1))) 0 Try.prog _ _ W from h1 (some (D + 1)) Bq ρ' _ W hst) ?_
      rintro e a1 W' ⟨ρ1, s1, ⟨w2, hx2, hs2⟩, he⟩
      cases e with
      | normal =>
        have he : vcx Try.prog (fun _ => False) 1000 _ s1 := he
        have fWW : Fr W W' own1 := hs2.1.below.below hx2.below hx2.own
        have hL' : W'.heap[D + 1]? = some (.loop (rec .ready none)) := by rw [fWW.block (D + 1) (by omega) (fun h => h.2.2 rfl)]; exact hL
        have hK' : W'.heap[D]? = some (.deferred (some [])) := by rw [fWW.block D (by omega) (fun h => h.2.1 rfl)]; exact hK
        have hsz' : D + 2 ≤ W'.heap.size := Nat.le_trans hsz fWW.size
        have hbr := run_beginRound (P := Try.prog) hL' (by rw [hrec])
        refine ⟨_, hbr, ?_⟩
        obtain ⟨W2, hW2⟩ : ∃ W2, W'.putObj (D + 1) (.loop { rec .ready none with state := .busy }) = W2 := ⟨_, rfl⟩
        rw [hW2]
        have fW2 : Fr W' W2 (· = D + 1) := by rw [← hW2]; exact ⟨rfl, rfl, rfl, by simp, fun c _ hc => World.putObj_heap_other hc⟩
        have hL2 : W2.heap[D + 1]? = some (.loop { rec .ready none with state := .busy }) := by rw [← hW2]; exact World.putObj_heap_same (by omega)
        have hK2 : W2.heap[D]? = some (.deferred (some [])) := by rw [← hW2, World.putObj_heap_other (by omega)]; exact hK'
        have hsz2 : D + 2 ≤ W2.heap.size := Nat.le_trans hsz' fW2.size
        have f02 : Fr w0.w W2 w0.own := fW2.below (fWW.below hf (fun c hc => hc.1)) (fun c hc => by rw [hc]; exact hLown)
        let B2 : Base := ⟨W2, own1, hnew W2 hsz2 f02.size, sv1, w2.df⟩
        have hst2 : SatN B2 ρ1 s1 a1 W2 := by
          refine ⟨B2, Ext.refl _, ⟨Fr.refl _ _, hs2.1.mem.aside fW2 (fun c hc => by rw [hc]; exact cellsNot hL' rfl) (fun c _ hc => hx2.own c hc) (fun _ _ _ _ => by rw [hx2.sv]), hs2.1.slot, hs2.1.size, hs2.1.defers⟩, hs2.2⟩
        rw [vcx_eq] at he
        have h2 := vcs_sound hm 1000 _ _ (by trivial) he
        rw [SVX_code] at h2
        refine wpIn_mono (show body.wpIn (FW (some (D + 1))) 0 Try.prog _ _ W2 from h2 (some (D + 1)) B2 ρ1 _ W2 hst2) ?_
        rintro e2 a2 W3 ⟨ρ2, s2, ⟨w3, hx3, hs3⟩, he2⟩
        have fW3 : Fr W2 W3 own1 := hs3.1.below.below hx3.below hx3.own
        have hL3 : W3.heap[D + 1]? = some (.loop { rec .ready none with state := .busy }) := by rw [fW3.block (D + 1) (by omega) (fun h => h.2.2 rfl)]; exact hL2
        have hK3 : W3.heap[D]? = some (.deferred (some [])) := by rw [fW3.block D (by omega) (fun h => h.2.1 rfl)]; exact hK2
        have hsz3 : D + 2 ≤ W3.heap.size := Nat.le_trans hsz2 fW3.size
        have f03 : Fr w0.w W3 w0.own := fW3.below f02 (fun c hc => hc.1)
        let B3 : Base := ⟨W3, own1, hnew W3 hsz3 f03.size, sv1, []⟩
        have m3 : SatM B3 ρ2 s2.m.get W3 := hs3.1.mem.aside (Fr.refl W3 fun _ => False) (fun _ h => h.elim) (fun c _ hc => hx3.own c hc) (fun _ _ _ _ => by rw [hx3.sv])
        -- the round's end
        have back : ∀ (jump : Option Code) (ρ3 : Nat → Loc) (m : Mem), SatM B3 ρ3 m.get W3 → (Instr.endRound (D + 1) jump).run Try.prog W3 = .ok (.bool jump.isNone) (W3.putObj (D + 1) (.loop (rec (if jump.isNone then .ready else .done) jump))) ∧
            Fr w0.w (W3.putObj (D + 1) (.loop (rec (if jump.isNone then .ready else .done) jump))) w0.own ∧ D + 2 ≤ (W3.putObj (D + 1) (.loop (rec (if jump.isNone then .ready else .done) jump))).heap.size ∧
            SatM B1 ρ3 m.get (W3.putObj (D + 1) (.loop (rec (if jump.isNone then .ready else .done) jump))) ∧
            (W3.putObj (D + 1) (.loop (rec (if jump.isNone then .ready else .done) jump))).heap[D + 1]? = some (.loop (rec (if jump.isNone then .ready else .done) jump)) ∧
            (W3.putObj (D + 1) (.loop (rec (if jump.isNone then .ready else .done) jump))).heap[D]? = some (.deferred (some [])) := by
          intro jump ρ3 m hm3
          have hr := run_endRound (P := Try.prog) jump hL3
          rw [hrec] at hr ⊢
          have fo : ∀ o, Fr W3 (W3.putObj (D + 1) o) (· = D + 1) := fun o => ⟨rfl, rfl, rfl, by simp, fun c _ hc => World.putObj_heap_other hc⟩
          exact ⟨hr, (fo _).below f03 (fun c hc => by rw [hc]; exact hLown), by simpa using hsz3, hm3.aside (fo _) (fun c hc => by rw [hc]; exact cellsNot hL3 rfl) (fun _ _ h => h) (fun _ _ _ _ => rfl),
            World.putObj_heap_same (by omega), (World.putObj_heap_other (by omega)).trans hK3⟩
        cases e2 with
        | normal =>
          have he2 : MLe s2.m s2.n (Ms (q + 1)) (ns (q + 1)) := he2
          obtain ⟨ρ3, m4, hid4⟩ := he2 B3 ρ2 W3 m3 (Fr.refl _ _) hs3.2
          obtain ⟨r1, r2, r3, r4, r5, r6⟩ := back none ρ3 _ m4
          exact ⟨_, _, r1, .inl ⟨rfl, by omega, r2, r3, ⟨ρ3, r4, hid4⟩, r5, r6⟩⟩
        | exit id' =>
          have he2 : if id' = idb then savGo j s2.m.get (fun t' => (SVX Try.prog Q k).2 idb ⟨t', kill j s2.m, s2.n⟩) s2.m else False := he2
          split at he2
          · rename_i hidb
            subst hidb
            obtain ⟨r1, r2, r3, r4, r5, r6⟩ := back (some (.exit id')) ρ2 _ m3
            exact ⟨_, _, r1, .inr ⟨rfl, r2, r3, ⟨ρ2, s2, r4, hs3.2, he2⟩, r5, r6⟩⟩
          · exact he2.elim
        | ret => exact he2.elim
        | _ => exact he2.elim
      | exit id' => exact he.elim
      | ret => exact he.elim
      | _ => exact he.elim
/-- The same, with the memory told by what of it changes. -/
theorem range_go {Q : St → Prop} {k : List Frm} {t : List AV} {m : Mem} {n i pi px kb : Nat} {assign body : Code} (hm : Try.prog.follows .mixedOrders = true) (j idb : Nat) (len : Nat) (es : Nat → List (Nat × Ent)) (x : Nat → Nat) (kd off : Nat) (hj : noSav j m = true) (hl63 : len < 9223372036854775808)
    (hT : t.getD i (.o .any) = .o (.fn FBk [kb]))
    (h0 : MLe ((n, .sav j t) :: m) (n + 4) ((n, .sav j t) :: upE (es 0) m) (n + 4))
    (hI : ∀ q, Mem.get ((n, .sav j t) :: upE (es q) m) kb = some (.hdr [.s kd off len]) ∨ (off = 0 ∧ Mem.get ((n, .sav j t) :: upE (es q) m) kb = some (.hdr [.r kd len])))
    (hD : ∀ q, q < len → ∃ e cs, Mem.get ((n, .sav j t) :: upE (es q) m) kd = some e ∧ e.cells = some cs ∧ (cs.drop (off + (len - 1 - q) * 4)).take 4 = eC (x q))
    (hround : ∀ q, q < len → vcx Try.prog (fun _ => False) 1000 [.code assign, .stop (fun s => vcx Try.prog (fun _ => False) 1000 [.code body, .stop (fun s' => MLe s'.m s'.n ((n, .sav j t) :: upE (es (q + 1)) m) (n + 4)), .block idb,
        .stop (fun s' => savGo j s'.m.get (fun t' => (SVX Try.prog Q k).2 idb ⟨t', kill j s'.m, s'.n⟩) s'.m)] s)] ⟨(t.set pi (.o (.v (.int .i64 ((len - 1 - q : Nat) : Int))))).set px (.o (.v (EN (x q)))), (n, .sav j t) :: upE (es q) m, n + 4⟩)
    (hend : (SVX Try.prog Q k).1 ⟨t, kill j ((n, .sav j t) :: upE (es len) m), n + 4⟩) : SV0 Try.prog Q (.rangeFunc (.tmp i) #[pi, px] assign body) k ⟨t, m, n⟩ :=
  range_back (idb := idb) hm j hj len hl63 hT t n kb kd off (fun q => (n, .sav j t) :: upE (es q) m) (fun _ => n + 4) x h0 (fun q _ => ⟨by simp [Mem.get], hI q⟩) hT hD hround hend
end Go.Sx
namespace Go.Sx
/-- How many coefficients a polynomial has. -/
def dg : List Nat → Nat
  | [] => 0
  | x :: l => if dg l = 0 ∧ x = 0 then 0 else dg l + 1
theorem dg_le : ∀ l : List Nat, dg l ≤ l.length
  | [] => Nat.le_refl _
  | x :: l => by
    have := dg_le l
    simp only [dg, List.length_cons]
    split <;> omega
theorem dg_snoc (x : Nat) : ∀ l : List Nat, dg (l ++ [x]) = if x = 0 then dg l else l.length + 1
  | [] => by
    by_cases h : x = 0 <;> simp [dg, h]
  | y :: l => by
    have := dg_snoc x l
    simp only [List.cons_append, dg, this, List.length_cons]
    by_cases h : x = 0 <;> simp [h]
theorem dg_zero : ∀ {l : List Nat} {i : Nat}, dg l ≤ i → l.getD i 0 = 0
  | [], i, _ => by simp
  | x :: l, 0, h => by
    simp only [dg] at h
    split at h
    · rename_i h0; simp [h0.2]
    · omega
  | x :: l, i + 1, h => by
    have : dg l ≤ i := by
      simp only [dg] at h
      split at h
      · rename_i h0; omega
      · omega
    simpa using dg_zero this
theorem dg_last : ∀ {l : List Nat}, 0 < dg l → l.getD (dg l - 1) 0 ≠ 0
  | [], h => by simp [dg] at h
  | x :: l, h => by
    simp only [dg] at h ⊢
    split at h
    · omega
    · rename_i hn
      rw [if_neg hn]
      by_cases h0 : dg l = 0
      · simp [h0] at hn ⊢
        exact hn
      · have := dg_last (l := l) (by omega)
        have e : dg l + 1 - 1 = (dg l - 1) + 1 := by omega
        rw [e]
        simpa using this
theorem dg_uniq {l : List Nat} {n : Nat} (hn : n = 0 ∨ l.getD (n - 1) 0 ≠ 0) (h : ∀ i, n ≤ i → l.getD i 0 = 0) : dg l = n := by
  rcases Nat.lt_trichotomy (dg l) n with h1 | h1 | h1
  · rcases hn with h2 | h2
    · omega
    · exact absurd (dg_zero (by omega)) h2
  · exact h1
  · have := dg_last (l := l) (by omega)
    exact absurd (h _ (by omega)) this
theorem dg_congr {l l' : List Nat} (h : ∀ i, l.getD i 0 = l'.getD i 0) : dg l = dg l' := by
  refine dg_uniq ?_ (fun i hi => by rw [h]; exact dg_zero hi)
  by_cases h0 : dg l' = 0
  · exact .inl h0
  · refine .inr ?_
    rw [h]; exact dg_last (by omega)
def trm (l : List Nat) : List Nat := l.take (dg l)
theorem trm_len (l : List Nat) : (trm l).length = dg l := by simp [trm, dg_le]
theorem trm_getD (l : List Nat) (i : Nat) : (trm l).getD i 0 = l.getD i 0 := by
  unfold trm
  by_cases h : i < dg l
  · simp [List.getD, List.getElem?_take, h]
  · rw [dg_zero (l := l) (by omega)]
    simp [List.getD, List.getElem?_take, h]
theorem getD_ext {l l' : List Nat} (hl : l.length = l'.length) (h : ∀ i, l.getD i 0 = l'.getD i 0) : l = l' := by
  apply List.ext_getElem hl
  intro i h1 h2
  have := h i
  simpa [List.getD, h1, h2] using this
theorem trm_congr {l l' : List Nat} (h : ∀ i, l.getD i 0 = l'.getD i 0) : trm l = trm l' :=
  getD_ext (by rw [trm_len, trm_len, dg_congr h]) (fun i => by rw [trm_getD, trm_getD, h])
theorem getD_map {l : List Nat} {f : Nat → Nat} (hf : f 0 = 0) (i : Nat) : (l.map f).getD i 0 = f (l.getD i 0) := by
  simp only [List.getD_eq_getElem?_getD, List.getElem?_map]
  cases l[i]? with
  | none => simp [hf]
  | some x => rfl
/-- A polynomial over a modulus. -/
def tp (m : Nat) (l : List Nat) : List Nat := trm (l.map (· % m))
theorem tp_congr {m : Nat} {l l' : List Nat} (h : ∀ i, l.getD i 0 % m = l'.getD i 0 % m) : tp m l = tp m l' :=
  trm_congr fun i => by rw [getD_map (Nat.zero_mod m), getD_map (Nat.zero_mod m)]; exact h i
theorem tp_getD (m : Nat) (l : List Nat) (i : Nat) : (tp m l).getD i 0 = l.getD i 0 % m := by
  unfold tp; rw [trm_getD, getD_map (Nat.zero_mod m)]
theorem tp_lt {m : Nat} (hm : 0 < m) (l : List Nat) : ∀ x ∈ tp m l, x < m := by
  intro x hx
  unfold tp trm at hx
  obtain ⟨y, _, rfl⟩ := List.mem_map.1 (List.mem_of_mem_take hx)
  exact Nat.mod_lt _ hm
theorem tp_len (m : Nat) (l : List Nat) : (tp m l).length ≤ l.length := by
  unfold tp; rw [trm_len]; have := dg_le (l.map (· % m)); simpa using this
theorem tp_tp (m : Nat) (l : List Nat) : tp m (tp m l) = tp m l := tp_congr fun i => by rw [tp_getD, Nat.mod_mod]
theorem tp_eq {m : Nat} {l l' : List Nat} : tp m l = tp m l' ↔ ∀ i, l.getD i 0 % m = l'.getD i 0 % m := by
  refine ⟨fun h i => ?_, tp_congr⟩
  rw [← tp_getD, ← tp_getD, h]
theorem tp_last {m : Nat} {l : List Nat} (h : tp m l ≠ []) : l.getD ((tp m l).length - 1) 0 % m ≠ 0 := by
  have h0 : 0 < (tp m l).length := List.length_pos_iff.2 h
  unfold tp at h0 ⊢
  rw [trm_len] at h0 ⊢
  have := dg_last h0
  rwa [getD_map (Nat.zero_mod m)] at this
/-- A list that is a polynomial already. -/
theorem tp_norm {m : Nat} {l : List Nat} (hl : ∀ x ∈ l, x < m) (h : l = [] ∨ l.getD (l.length - 1) 0 ≠ 0) : tp m l = l := by
  have hmap : l.map (· % m) = l := by
    conv => rhs; rw [← List.map_id l]
    exact List.map_congr_left fun x hx => Nat.mod_eq_of_lt (hl x hx)
  unfold tp
  rw [hmap]
  unfold trm
  have : dg l = l.length := by
    refine dg_uniq ?_ (fun i hi => by simp [List.getD, hi])
    rcases h with rfl | h
    · exact .inl rfl
    · exact .inr h
  rw [this, List.take_length]
theorem tp_len_le {m : Nat} {l : List Nat} {n : Nat} (h : ∀ i, n ≤ i → l.getD i 0 % m = 0) : (tp m l).length ≤ n := by
  rcases Nat.lt_or_ge n (tp m l).length with h1 | h1
  · exfalso
    have := tp_last (m := m) (l := l) (by intro e; rw [e] at h1; simp at h1)
    exact this (h _ (by omega))
  · exact h1
theorem tp_len_eq {m : Nat} {l : List Nat} {n : Nat} (h : ∀ i, n ≤ i → l.getD i 0 % m = 0) (h1 : n = 0 ∨ l.getD (n - 1) 0 % m ≠ 0) : (tp m l).length = n := by
  refine Nat.le_antisymm (tp_len_le h) ?_
  rcases h1 with rfl | h1
  · exact Nat.zero_le _
  · rcases Nat.lt_or_ge (tp m l).length n with h2 | h2
    · exfalso
      rw [← tp_getD] at h1
      exact h1 (by simp [List.getD, List.getElem?_eq_none (show (tp m l).length ≤ n - 1 by omega)])
    · exact h2
theorem mod_1 (l : List Nat) : tp 1 l = [] := by
  have := tp_len_le (m := 1) (l := l) (n := 0) (fun i _ => Nat.mod_one _)
  exact List.eq_nil_of_length_eq_zero (by omega)
/-- The step of Trim's loop. -/
theorem dg_step {l : List Nat} {i : Nat} (h : i < l.length) : dg (l.take (i + 1)) = if l.getD i 0 = 0 then dg (l.take i) else i + 1 := by
  have e : l.take (i + 1) = l.take i ++ [l.getD i 0] := by
    rw [List.take_succ_eq_append_getElem h]
    simp [List.getD, h]
  rw [e, dg_snoc]
  split
  · rfl
  · simp; omega
theorem getD_out {l : List Nat} {i : Nat} (h : l.length ≤ i) : l.getD i 0 = 0 := by simp [List.getD, List.getElem?_eq_none h]
theorem tab_out {n i : Nat} {f : Nat → Nat} (h : n ≤ i) : (tab n f).getD i 0 = 0 := getD_out (by rw [tab_len]; exact h)
theorem tab_snoc {n : Nat} {f : Nat → Nat} : tab n f ++ [f n] = tab (n + 1) f := by simp [tab, List.range_succ]
theorem tab_0 {f : Nat → Nat} : tab 0 f = [] := rfl
theorem mtake {l : List Nat} {f : Nat → Nat} {i : Nat} (h : i < l.length) : (l.map f).take i ++ [f (l.getD i 0)] = (l.map f).take (i + 1) := by
  rw [List.take_succ_eq_append_getElem (by simpa using h)]
  simp [List.getD, h]
theorem take_len {α : Type} {l : List α} : l.take l.length = l := List.take_length
theorem map_full {l : List Nat} {f : Nat → Nat} : (l.map f).take l.length = l.map f := List.take_of_length_le (by simp)
end Go.Sx
namespace Go.Sx
open Go.Proofs
-- SY
-- TY: TYX, UX
set_option maxRecDepth 100000
set_option linter.unusedSimpArgs false
set_option pp.deepTerms true
set_option pp.maxSteps 100000
theorem u_known (s : Int) : Contract Try.prog 66 [.val (.int .i64 s)] [.val (.int .i64 (eS s))] := by
  refine contract_of (N := _) (vars := _) (c := bodyOf Try.f66) Try.func66 (body_eq rfl) rfl rfl (by rfl) mixed _ _ trivial 1000 ?_
  simp only [bodyOf, Try.f66, Option.getD_some, argA, argE, List.length_cons, List.length_nil, Nat.reduceAdd, Nat.reduceSub, List.replicate, List.cons_append, List.nil_append]
  simp only [↓PX, SX, SYX, EY, simprocAttr, TYX, UX]
  refine CallVC.intro (u_Modulus s) ⟨rfl, trivial⟩ rfl rfl ?_
  simp only [↓PX, SX, SYX, EY, simprocAttr, TYX, UX]
theorem v_known (s : Int) : Contract Try.prog 68 [.val (.int .i64 s)] [.val (.bool (kn s))] := by
  have e : kn s = (decide (0 ≤ s) && decide (s ≤ 3)) := by
    rw [Bool.eq_iff_iff]
    simp only [kn, Bool.or_eq_true, beq_iff_eq, Bool.and_eq_true, decide_eq_true_eq]
    omega
  rw [e]
  refine contract_of (N := _) (vars := _) (c := bodyOf Try.f68) Try.func68 (body_eq rfl) rfl rfl (by rfl) mixed _ _ trivial 1000 ?_
  simp only [bodyOf, Try.f68, Option.getD_some, argA, argE, List.length_cons, List.length_nil, Nat.reduceAdd, Nat.reduceSub, List.replicate, List.cons_append, List.nil_append]
  simp only [↓PX, SX, SYX, EY, simprocAttr, TYX, UX]
  refine guard_split (fun h0 => ?_) (fun h0 => ?_) <;> (try simp only [↓PX, SX, SYX, EY, simprocAttr, TYX, UX, h0]) <;> (try simp [h0])
theorem u_Trim (s : Int) (l : List Nat) (hl : ∀ x ∈ l, x < W256) (hb : l.length * 32 ≤ 140737488355328) :
    Contract Try.prog 24 [.val (.int .i64 s), .sl l.length 4 (LC eC l)] [.part (tp (md s) l).length 4 (LC eC (tp (md s) l))] := by
  cases srt s with
  | no hk he hm =>
    rw [hm, mod_1]
    refine contract_of (N := _) (vars := _) (c := bodyOf Try.f24) Try.func24 (body_eq rfl) rfl rfl (by rfl) mixed _ _ trivial 1000 ?_
    simp only [bodyOf, Try.f24, Option.getD_some, argA, argE, List.length_cons, List.length_nil, Nat.reduceAdd, Nat.reduceSub, List.replicate, List.cons_append, List.nil_append]
    simp only [↓PX, SX, SYX, EY, simprocAttr, TYX, UX]
    refine CallVC.intro (u_known s) ⟨rfl, trivial⟩ rfl rfl ?_
    simp only [↓PX, SX, SYX, EY, simprocAttr, TYX, UX, he]
  | yes hk he =>
    refine contract_of (N := _) (vars := _) (c := bodyOf Try.f24) Try.func24 (body_eq rfl) rfl rfl (by rfl) mixed _ _ trivial 1000 ?_
    simp only [bodyOf, Try.f24, Option.getD_some, argA, argE, List.length_cons, List.length_nil, Nat.reduceAdd, Nat.reduceSub, List.replicate, List.cons_append, List.nil_append]
    simp only [↓PX, SX, SYX, EY, simprocAttr, TYX, UX]
    refine CallVC.intro (u_known s) ⟨rfl, trivial⟩ rfl rfl ?_
    simp only [↓PX, SX, SYX, EY, simprocAttr, TYX, UX, he]
    repeat (first | refine DrawVC.intro (by kernel_rfl) ?_ | refine And.intro (by omega) ?_ | exact trivial)
    refine loop_hav ?_
    simp only [↓PX, SX, SYX, EY, simprocAttr, TYX, UX]
    refine loop_go mixed (by trivial) (γ := Nat) (fun i => i ≤ l.length) (fun i => l.length - i) (fun i => [(6, iv (dg ((l.map (· % md s)).take i))), (17, iv i)]) (fun i => [(26, .row 25 4 l.length (LC eC (tab l.length (fun j => if j < i then l.getD j 0 % md s else 0))))]) 0 (by omega)
      (St.le_of id (by simp [-List.getD_eq_getElem?_getD, SYX, iv, Tle, AVle, A0le, Mem.get, dg, tab_rep]) (by simp [-List.getD_eq_getElem?_getD, SYX, Mle, Ele, Hle, Tle, AVle, A0le, Mem.get, dg, tab_rep]) (by simp [SYX]) (by simp [SYX])) ?_
    intro i hi
    simp only [↓PX, SX, SYX, EY, simprocAttr, TYX, UX]
    refine cond_split (fun h0 => ?_) (fun h0 => ?_)
    · have h0 : i < l.length := by simpa using h0
      have hx := getD_lt hl h0
      simp only [↓PX, SX, SYX, EY, simprocAttr, TYX, UX, eL_ld h0]
      repeat (first | refine DrawVC.intro (by kernel_rfl) ?_ | refine And.intro (by omega) ?_ | exact trivial)
      refine CallVC.intro (u_Add s _ 0 hx (by decide)) ⟨rfl, rfl, rfl, trivial⟩ rfl rfl ?_
      simp only [↓PX, SX, SYX, EY, simprocAttr, TYX, UX]
      have hi2 : i < (tab l.length (fun j => if j < i then l.getD j 0 % md s else 0)).length := by rw [tab_len]; exact h0
      have e1 := eL_st (v := l.getD i 0 % md s) hi2
      have e3 : (tab l.length (fun j => if j < i then l.getD j 0 % md s else 0)).set i (l.getD i 0 % md s) = tab l.length (fun j => if j < i + 1 then l.getD j 0 % md s else 0) := by
        rw [tab_set]
        refine tab_congr fun j _ => ?_
        by_cases hj : j = i
        · subst hj; simp
        · have : (j < i + 1) = (j < i) := by rw [eq_iff_iff]; omega
          simp [hj, this]
      rw [e3] at e1
      have e2 : Value.agg (((LC eC (tab l.length (fun j => if j < i + 1 then l.getD j 0 % md s else 0))).drop (i * 4)).take 4).toArray = EN (l.getD i 0 % md s) := by
        rw [eL_ld (by rw [tab_len]; exact h0), tab_at h0, if_pos (Nat.lt_succ_self i)]
      have e4 : dg ((l.map (· % md s)).take (i + 1)) = if l.getD i 0 % md s = 0 then dg ((l.map (· % md s)).take i) else i + 1 := by
        rw [dg_step (by simpa using h0), getD_map (f := (· % md s)) (Nat.zero_mod _)]
      have e5 : eqN (l.getD i 0 % md s) 0 = (l.getD i 0 % md s == 0) := eqN_eq (md_w s _) (by decide)
      simp only [↓PX, SX, SYX, EY, simprocAttr, TYX, UX, e1, e2, e5, tab_len]
      by_cases hz : l.getD i 0 % md s = 0
      · have e6 : (l.getD i 0 % md s == 0) = true := by simpa using hz
        rw [if_pos hz] at e4
        simp only [↓PX, SX, SYX, EY, simprocAttr, TYX, UX, e6]
        repeat (first | refine DrawVC.intro (by kernel_rfl) ?_ | refine And.intro (by omega) ?_ | exact trivial)
        simp only [↓PX, SX, SYX, EY, simprocAttr, TYX, UX, wS (j := i) (by omega)]
        exact ⟨i + 1, by omega, by omega, (St.le_of id (by simp [-List.getD_eq_getElem?_getD, SYX, iv, Tle, AVle, A0le, Mem.get, e4]) (by simp [-List.getD_eq_getElem?_getD, SYX, Mle, Ele, Hle, Tle, AVle, A0le, Mem.get, e4]) (by simp [SYX]) (by simp [SYX]))⟩
      · have e6 : (l.getD i 0 % md s == 0) = false := by simpa using hz
        rw [if_neg hz] at e4
        simp only [↓PX, SX, SYX, EY, simprocAttr, TYX, UX, e6]
        repeat (first | refine DrawVC.intro (by kernel_rfl) ?_ | refine And.intro (by omega) ?_ | exact trivial)
        simp only [↓PX, SX, SYX, EY, simprocAttr, TYX, UX, wS (j := i) (by omega)]
        exact ⟨i + 1, by omega, by omega, (St.le_of id (by simp [-List.getD_eq_getElem?_getD, SYX, iv, Tle, AVle, A0le, Mem.get, e4]) (by simp [-List.getD_eq_getElem?_getD, SYX, Mle, Ele, Hle, Tle, AVle, A0le, Mem.get, e4]) (by simp [SYX]) (by simp [SYX]))⟩
    · have h0 : i = l.length := by
        have : l.length ≤ i := by simpa using h0
        omega
      subst h0
      have hd : dg (List.take l.length (List.map (fun x => x % md s) l)) ≤ l.length := by
        have := dg_le (List.take l.length (List.map (fun x => x % md s) l))
        simp at this; simp; omega
      simp only [↓PX, SX, SYX, EY, simprocAttr, TYX, UX]
      refine ⟨⟨by omega, by omega⟩, ?_⟩
      refine CallVC.inline (N := _) (vars := _) (c := bodyOf Try.f67) Try.func67 (body_eq rfl) rfl rfl (by rfl) mixed (by rfl) 0 (by rfl) ?_
      simp only [bodyOf, Try.f67, Option.getD_some, List.length_cons, List.length_nil, Nat.reduceAdd, Nat.reduceSub, List.replicate, List.cons_append, List.nil_append]
      simp only [↓PX, SX, SYX, EY, simprocAttr, TYX, UX]
      have ht : List.take l.length (List.map (fun x => x % md s) l) = List.map (fun x => x % md s) l := List.take_of_length_le (by simp)
      have hg : (tp (md s) l).length = dg (List.map (fun x => x % md s) l) := trm_len _
      have hw : tab l.length (fun j => if j < l.length then l.getD j 0 % md s else 0) = List.map (fun x => x % md s) l := by
        rw [tab_map]; exact tab_congr fun j hj => if_pos hj
      rw [ht]
      refine ⟨⟨by omega, by omega, by omega⟩, hg.symm, ?_⟩
      rw [hw, hg, eL_take]
      rfl
end Go.Sx
namespace Go.Sx
open Go.Proofs
-- SY
-- TY: TYX, UX
set_option maxRecDepth 100000
set_option linter.unusedSimpArgs false
set_option pp.deepTerms true
set_option pp.maxSteps 100000
theorem u_Clone (l : List Nat) (hb : l.length * 32 ≤ 140737488355328) : Contract Try.prog 70 [.sl l.length 4 (LC eC l)] [.row 25 4 l.length (LC eC l)] := by
  refine contract_of (N := _) (vars := _) (c := bodyOf Try.f70) Try.func70 (body_eq rfl) rfl rfl (by rfl) mixed _ _ trivial 1000 ?_
  simp only [bodyOf, Try.f70, Option.getD_some, argA, argE, List.length_cons, List.length_nil, Nat.reduceAdd, Nat.reduceSub, List.replicate, List.cons_append, List.nil_append]
  simp only [↓PX, SX, SYX, EY, simprocAttr, TYX, UX]
  refine NdVC.intro rfl (fun b h0 => ?_)
  cases b
  · simp only [↓PX, SX, SYX, EY, simprocAttr, TYX, UX]
    exact ⟨hb, by omega⟩
  · simp only [↓PX, SX, SYX, EY, simprocAttr, TYX, UX]
    have h0 := h0 rfl
    exact ⟨h0, by rw [List.eq_nil_of_length_eq_zero h0]; rfl⟩
theorem v_Trim (s : Int) (l : List Nat) (hl : ∀ x ∈ l, x < W256) (hb : l.length * 32 ≤ 140737488355328) :
    Contract Try.prog 25 [.val (.int .i64 s), .sl l.length 4 (LC eC l)] [.part (tp (md s) l).length 4 (LC eC (tp (md s) l))] := by
  cases hk : kn s with
  | false =>
    have hm : md s = 1 := by cases srt s with | no _ _ hm => exact hm | yes h => rw [hk] at h; cases h
    rw [hm, mod_1]
    refine contract_of (N := _) (vars := _) (c := bodyOf Try.f25) Try.func25 (body_eq rfl) rfl rfl (by rfl) mixed _ _ trivial 1000 ?_
    simp only [bodyOf, Try.f25, Option.getD_some, argA, argE, List.length_cons, List.length_nil, Nat.reduceAdd, Nat.reduceSub, List.replicate, List.cons_append, List.nil_append]
    simp only [↓PX, SX, SYX, EY, simprocAttr, TYX, UX]
    refine CallVC.intro (v_known s) ⟨rfl, trivial⟩ rfl rfl ?_
    simp only [↓PX, SX, SYX, EY, simprocAttr, TYX, UX, hk]
    exact ⟨_, rfl⟩
  | true =>
    refine contract_of (N := _) (vars := _) (c := bodyOf Try.f25) Try.func25 (body_eq rfl) rfl rfl (by rfl) mixed _ _ trivial 1000 ?_
    simp only [bodyOf, Try.f25, Option.getD_some, argA, argE, List.length_cons, List.length_nil, Nat.reduceAdd, Nat.reduceSub, List.replicate, List.cons_append, List.nil_append]
    simp only [↓PX, SX, SYX, EY, simprocAttr, TYX, UX]
    refine CallVC.intro (v_known s) ⟨rfl, trivial⟩ rfl rfl ?_
    simp only [↓PX, SX, SYX, EY, simprocAttr, TYX, UX, hk]
    refine loop_hav ?_
    simp only [↓PX, SX, SYX, EY, simprocAttr, TYX, UX]
    refine loop_go mixed (by trivial) (γ := Nat) (fun i => i ≤ l.length) (fun i => l.length - i) (fun i => [(5, .o (.r 6 i)), (7, iv (dg ((l.map (· % md s)).take i))), (8, iv i), (10, .o .any)]) (fun i => [(6, .row 25 4 i (LC eC ((l.map (· % md s)).take i)))]) 0 (by omega)
      (St.le_of id (by simp [-List.getD_eq_getElem?_getD, SYX, iv, Tle, AVle, A0le, Mem.get, dg, eL_nil]) (by simp [-List.getD_eq_getElem?_getD, SYX, Mle, Ele, Hle, Tle, AVle, A0le, Mem.get, dg, eL_nil]) (by simp [SYX]) (by simp [SYX])) ?_
    intro i hi
    simp only [↓PX, SX, SYX, EY, simprocAttr, TYX, UX]
    refine cond_split (fun h0 => ?_) (fun h0 => ?_)
    · have h0 : i < l.length := by simpa using h0
      have hx := getD_lt hl h0
      simp only [↓PX, SX, SYX, EY, simprocAttr, TYX, UX, eL_ld h0]
      repeat (first | refine DrawVC.intro (by kernel_rfl) ?_ | refine And.intro (by omega) ?_ | exact trivial)
      have e4 : dg ((l.map (· % md s)).take (i + 1)) = if l.getD i 0 % md s = 0 then dg ((l.map (· % md s)).take i) else i + 1 := by
        rw [dg_step (by simpa using h0), getD_map (f := (· % md s)) (Nat.zero_mod _)]
      have e5 : eqN (l.getD i 0 % md s) 0 = (l.getD i 0 % md s == 0) := eqN_eq (md_w s _) (by decide)
      have e7 := mtake (f := (· % md s)) h0
      refine CallVC.intro (v_Of s _ hx) ⟨rfl, rfl, trivial⟩ rfl rfl ?_
      simp only [↓PX, SX, SYX, EY, simprocAttr, TYX, UX, e5, e7]
      repeat (first | refine DrawVC.intro (by kernel_rfl) ?_ | refine And.intro (by omega) ?_ | exact trivial)
      by_cases hz : l.getD i 0 % md s = 0
      · have e6 : (l.getD i 0 % md s == 0) = true := by simpa using hz
        rw [if_pos hz] at e4
        simp only [↓PX, SX, SYX, EY, simprocAttr, TYX, UX, e6]
        simp only [↓PX, SX, SYX, EY, simprocAttr, TYX, UX, wS (j := i) (by omega)]
        exact ⟨i + 1, by omega, by omega, (St.le_of (ren [(6, 106)]) (by simp [-List.getD_eq_getElem?_getD, SYX, iv, ren, Tle, AVle, A0le, Mem.get, e4]) (by simp [-List.getD_eq_getElem?_getD, SYX, ren, Mle, Ele, Mem.get, e4]) (by simp [SYX, ren]) (by simp [SYX]))⟩
      · have e6 : (l.getD i 0 % md s == 0) = false := by simpa using hz
        rw [if_neg hz] at e4
        simp only [↓PX, SX, SYX, EY, simprocAttr, TYX, UX, e6]
        simp only [↓PX, SX, SYX, EY, simprocAttr, TYX, UX, wS (j := i) (by omega)]
        exact ⟨i + 1, by omega, by omega, (St.le_of (ren [(6, 106)]) (by simp [-List.getD_eq_getElem?_getD, SYX, iv, ren, Tle, AVle, A0le, Mem.get, e4]) (by simp [-List.getD_eq_getElem?_getD, SYX, ren, Mle, Ele, Mem.get, e4]) (by simp [SYX, ren]) (by simp [SYX]))⟩
    · have h0 : i = l.length := by
        have : l.length ≤ i := by simpa using h0
        omega
      subst h0
      have hd := dg_le (List.map (fun x => x % md s) l)
      simp only [List.length_map] at hd
      have hg : (tp (md s) l).length = dg (List.map (fun x => x % md s) l) := trm_len _
      simp only [↓PX, SX, SYX, EY, simprocAttr, TYX, UX, map_full]
      refine ⟨⟨by omega, by omega⟩, hg.symm, ?_⟩
      rw [hg, eL_take]
      rfl
/-- Sums, place by place. -/
def pAdd (a b : List Nat) : List Nat := tab (max a.length b.length) fun i => a.getD i 0 + b.getD i 0
theorem pAdd_getD (a b : List Nat) (i : Nat) : (pAdd a b).getD i 0 = a.getD i 0 + b.getD i 0 := by
  unfold pAdd
  by_cases h : i < max a.length b.length
  · rw [tab_at h]
  · rw [tab_out (by omega), getD_out (l := a) (by omega), getD_out (l := b) (by omega)]
theorem pAdd_comm (a b : List Nat) : pAdd a b = pAdd b a := by
  unfold pAdd; rw [Nat.max_comm]; exact tab_congr fun i _ => Nat.add_comm _ _
/-- What Add makes ahead of Trim: the shorter list b is added into a. -/
def addT (m : Nat) (a b : List Nat) (i : Nat) : List Nat := tab a.length fun j => if j < i then (a.getD j 0 + b.getD j 0) % m else a.getD j 0
theorem addT_0 {m : Nat} {a b : List Nat} : addT m a b 0 = a := by
  unfold addT
  simp only [Nat.not_lt_zero, if_false]
  exact tab_self.symm
theorem addT_lt {s : Int} {a b : List Nat} {i : Nat} (ha : ∀ x ∈ a, x < W256) : ∀ x ∈ addT (md s) a b i, x < W256 := by
  intro x hx
  simp only [addT, tab, List.mem_map, List.mem_range] at hx
  obtain ⟨j, hj, rfl⟩ := hx
  split
  · exact md_w s _
  · exact getD_lt ha hj
theorem addT_tp {m : Nat} {a b : List Nat} (h : b.length ≤ a.length) : tp m (addT m a b b.length) = tp m (pAdd a b) := by
  refine tp_congr fun i => ?_
  rw [pAdd_getD]
  by_cases hi : i < a.length
  · unfold addT
    rw [tab_at hi]
    split
    · rw [Nat.mod_mod]
    · rename_i h1
      have h2 : b.getD i 0 = 0 := by simp [List.getD, List.getElem?_eq_none (show b.length ≤ i by omega)]
      rw [h2, Nat.add_zero]
  · have h1 : a.getD i 0 = 0 := by simp [List.getD, List.getElem?_eq_none (show a.length ≤ i by omega)]
    have h2 : b.getD i 0 = 0 := by simp [List.getD, List.getElem?_eq_none (show b.length ≤ i by omega)]
    have h3 : (addT m a b b.length).getD i 0 = 0 := by simp [List.getD, List.getElem?_eq_none (show (addT m a b b.length).length ≤ i by unfold addT; rw [tab_len]; omega)]
    rw [h1, h2, h3]
theorem u_PAdd0 (s : Int) (a b : List Nat) (ha : ∀ x ∈ a, x < W256) (hb : ∀ x ∈ b, x < W256) (h : b.length ≤ a.length) (hl : a.length * 32 ≤ 140737488355328) :
    Contract Try.prog 26 [.val (.int .i64 s), .sl a.length 4 (LC eC a), .sl b.length 4 (LC eC b)] [.part (tp (md s) (pAdd a b)).length 4 (LC eC (tp (md s) (pAdd a b)))] := by
  have e0 : decide ((a.length : Int) < (b.length : Int)) = false := by simp; omega
  refine contract_of (N := _) (vars := _) (c := bodyOf Try.f26) Try.func26 (body_eq rfl) rfl rfl (by rfl) mixed _ _ trivial 1000 ?_
  simp only [bodyOf, Try.f26, Option.getD_some, argA, argE, List.length_cons, List.length_nil, Nat.reduceAdd, Nat.reduceSub, List.replicate, List.cons_append, List.nil_append]
  simp only [↓PX, SX, SYX, EY, simprocAttr, TYX, UX]
  simp only [↓PX, SX, SYX, EY, simprocAttr, TYX, UX, e0]
  refine CallVC.intro (u_Clone a hl) ⟨(by simp only [argMatch, SX, SYX, EY, simprocAttr, and_self, List.length_append, List.length_map, List.length_set, TYX, UX]), trivial⟩ rfl rfl ?_
  simp only [↓PX, SX, SYX, EY, simprocAttr, TYX, UX]
  refine loop_hav ?_
  simp only [↓PX, SX, SYX, EY, simprocAttr, TYX, UX]
  refine loop_go mixed (by trivial) (γ := Nat) (fun i => i ≤ b.length) (fun i => b.length - i) (fun i => [(21, iv i)]) (fun i => [(31, .row 25 4 a.length (LC eC (addT (md s) a b i)))]) 0 (by omega)
    (St.le_of id (by simp [-List.getD_eq_getElem?_getD, SYX, iv, Tle, AVle, A0le, Mem.get, addT_0]) (by simp [-List.getD_eq_getElem?_getD, SYX, Mle, Ele, Hle, Tle, AVle, A0le, Mem.get, addT_0]) (by simp [SYX]) (by simp [SYX])) ?_
  intro i hi
  simp only [↓PX, SX, SYX, EY, simprocAttr, TYX, UX]
  refine cond_split (fun h0 => ?_) (fun h0 => ?_)
  · have h0 : i < b.length := by simpa using h0
    have hx := getD_lt hb h0
    have hx2 : a.getD i 0 < W256 := getD_lt ha (by omega)
    have hlt : i < (addT (md s) a b i).length := by unfold addT; rw [tab_len]; omega
    have hlen : (addT (md s) a b i).length = a.length := by unfold addT; rw [tab_len]
    have e1 := eL_ld hlt
    have e2 : (addT (md s) a b i).getD i 0 = a.getD i 0 := by unfold addT; rw [tab_at (by omega), if_neg (Nat.lt_irrefl i)]
    rw [e2] at e1
    have e3 := eL_st (v := (a.getD i 0 + b.getD i 0) % md s) hlt
    have e4 : (addT (md s) a b i).set i ((a.getD i 0 + b.getD i 0) % md s) = addT (md s) a b (i + 1) := by
      unfold addT
      rw [tab_set]
      refine tab_congr fun j _ => ?_
      by_cases hj : j = i
      · subst hj; simp
      · have : (j < i + 1) = (j < i) := by rw [eq_iff_iff]; omega
        simp [hj, this]
    rw [e4] at e3
    simp only [↓PX, SX, SYX, EY, simprocAttr, TYX, UX, eL_ld h0, e1, hlen]
    repeat (first | refine DrawVC.intro (by kernel_rfl) ?_ | refine And.intro (by omega) ?_ | exact trivial)
    refine CallVC.intro (u_Add s _ _ hx2 hx) ⟨rfl, rfl, rfl, trivial⟩ rfl rfl ?_
    simp only [↓PX, SX, SYX, EY, simprocAttr, TYX, UX, hlen, e3, wS (j := i) (by omega)]
    repeat (first | refine DrawVC.intro (by kernel_rfl) ?_ | refine And.intro (by omega) ?_ | exact trivial)
    exact ⟨i + 1, by omega, by omega, (St.le_of id (by simp [-List.getD_eq_getElem?_getD, SYX, iv, Tle, AVle, A0le, Mem.get]) (by simp [-List.getD_eq_getElem?_getD, SYX, Mle, Ele, Hle, Tle, AVle, A0le, Mem.get]) (by simp [SYX]) (by simp [SYX]))⟩
  · have h0 : i = b.length := by
      have : b.length ≤ i := by simpa using h0
      omega
    subst h0
    have hlen : (addT (md s) a b b.length).length = a.length := by unfold addT; rw [tab_len]
    have hc := u_Trim s (addT (md s) a b b.length) (addT_lt ha) (by rw [hlen]; exact hl)
    rw [addT_tp (by omega), hlen] at hc
    simp only [↓PX, SX, SYX, EY, simprocAttr, TYX, UX]
    refine CallVC.intro (hc) ⟨rfl, (by simp only [argMatch, SX, SYX, EY, simprocAttr, and_self, List.length_append, List.length_map, List.length_set, TYX, UX, hlen]), trivial⟩ rfl rfl ?_
    simp only [↓PX, SX, SYX, EY, simprocAttr, TYX, UX, hlen]
theorem u_PAdd1 (s : Int) (a b : List Nat) (ha : ∀ x ∈ a, x < W256) (hb : ∀ x ∈ b, x < W256) (h : a.length < b.length) (hl : b.length * 32 ≤ 140737488355328) :
    Contract Try.prog 26 [.val (.int .i64 s), .sl a.length 4 (LC eC a), .sl b.length 4 (LC eC b)] [.part (tp (md s) (pAdd a b)).length 4 (LC eC (tp (md s) (pAdd a b)))] := by
  have e0 : decide ((a.length : Int) < (b.length : Int)) = true := by simp; omega
  refine contract_of (N := _) (vars := _) (c := bodyOf Try.f26) Try.func26 (body_eq rfl) rfl rfl (by rfl) mixed _ _ trivial 1000 ?_
  simp only [bodyOf, Try.f26, Option.getD_some, argA, argE, List.length_cons, List.length_nil, Nat.reduceAdd, Nat.reduceSub, List.replicate, List.cons_append, List.nil_append]
  simp only [↓PX, SX, SYX, EY, simprocAttr, TYX, UX]
  simp only [↓PX, SX, SYX, EY, simprocAttr, TYX, UX, e0]
  refine CallVC.intro (u_Clone b hl) ⟨(by simp only [argMatch, SX, SYX, EY, simprocAttr, and_self, List.length_append, List.length_map, List.length_set, TYX, UX]), trivial⟩ rfl rfl ?_
  simp only [↓PX, SX, SYX, EY, simprocAttr, TYX, UX]
  refine loop_hav ?_
  simp only [↓PX, SX, SYX, EY, simprocAttr, TYX, UX]
  refine loop_go mixed (by trivial) (γ := Nat) (fun i => i ≤ a.length) (fun i => a.length - i) (fun i => [(21, iv i)]) (fun i => [(47, .row 25 4 b.length (LC eC (addT (md s) b a i)))]) 0 (by omega)
    (St.le_of id (by simp [-List.getD_eq_getElem?_getD, SYX, iv, Tle, AVle, A0le, Mem.get, addT_0]) (by simp [-List.getD_eq_getElem?_getD, SYX, Mle, Ele, Hle, Tle, AVle, A0le, Mem.get, addT_0]) (by simp [SYX]) (by simp [SYX])) ?_
  intro i hi
  simp only [↓PX, SX, SYX, EY, simprocAttr, TYX, UX]
  refine cond_split (fun h0 => ?_) (fun h0 => ?_)
  · have h0 : i < a.length := by simpa using h0
    have hx := getD_lt ha h0
    have hx2 : b.getD i 0 < W256 := getD_lt hb (by omega)
    have hlt : i < (addT (md s) b a i).length := by unfold addT; rw [tab_len]; omega
    have hlen : (addT (md s) b a i).length = b.length := by unfold addT; rw [tab_len]
    have e1 := eL_ld hlt
    have e2 : (addT (md s) b a i).getD i 0 = b.getD i 0 := by unfold addT; rw [tab_at (by omega), if_neg (Nat.lt_irrefl i)]
    rw [e2] at e1
    have e3 := eL_st (v := (b.getD i 0 + a.getD i 0) % md s) hlt
    have e4 : (addT (md s) b a i).set i ((b.getD i 0 + a.getD i 0) % md s) = addT (md s) b a (i + 1) := by
      unfold addT
      rw [tab_set]
      refine tab_congr fun j _ => ?_
      by_cases hj : j = i
      · subst hj; simp
      · have : (j < i + 1) = (j < i) := by rw [eq_iff_iff]; omega
        simp [hj, this]
    rw [e4] at e3
    simp only [↓PX, SX, SYX, EY, simprocAttr, TYX, UX, eL_ld h0, e1, hlen]
    repeat (first | refine DrawVC.intro (by kernel_rfl) ?_ | refine And.intro (by omega) ?_ | exact trivial)
    refine CallVC.intro (u_Add s _ _ hx2 hx) ⟨rfl, rfl, rfl, trivial⟩ rfl rfl ?_
    simp only [↓PX, SX, SYX, EY, simprocAttr, TYX, UX, hlen, e3, wS (j := i) (by omega)]
    repeat (first | refine DrawVC.intro (by kernel_rfl) ?_ | refine And.intro (by omega) ?_ | exact trivial)
    exact ⟨i + 1, by omega, by omega, (St.le_of id (by simp [-List.getD_eq_getElem?_getD, SYX, iv, Tle, AVle, A0le, Mem.get]) (by simp [-List.getD_eq_getElem?_getD, SYX, Mle, Ele, Hle, Tle, AVle, A0le, Mem.get]) (by simp [SYX]) (by simp [SYX]))⟩
  · have h0 : i = a.length := by
      have : a.length ≤ i := by simpa using h0
      omega
    subst h0
    have hlen : (addT (md s) b a a.length).length = b.length := by unfold addT; rw [tab_len]
    have hc := u_Trim s (addT (md s) b a a.length) (addT_lt hb) (by rw [hlen]; exact hl)
    rw [addT_tp (by omega), hlen] at hc
    rw [pAdd_comm b a] at hc
    simp only [↓PX, SX, SYX, EY, simprocAttr, TYX, UX]
    refine CallVC.intro (hc) ⟨rfl, (by simp only [argMatch, SX, SYX, EY, simprocAttr, and_self, List.length_append, List.length_map, List.length_set, TYX, UX, hlen]), trivial⟩ rfl rfl ?_
    simp only [↓PX, SX, SYX, EY, simprocAttr, TYX, UX, hlen]
theorem u_PAdd (s : Int) (a b : List Nat) (ha : ∀ x ∈ a, x < W256) (hb : ∀ x ∈ b, x < W256) (hl : a.length * 32 ≤ 140737488355328) (hl2 : b.length * 32 ≤ 140737488355328) :
    Contract Try.prog 26 [.val (.int .i64 s), .sl a.length 4 (LC eC a), .sl b.length 4 (LC eC b)] [.part (tp (md s) (pAdd a b)).length 4 (LC eC (tp (md s) (pAdd a b)))] := by
  by_cases h : b.length ≤ a.length
  · exact u_PAdd0 s a b ha hb h hl
  · exact u_PAdd1 s a b ha hb (by omega) hl2
/-- What Scale makes ahead of Trim. -/
def scT (m : Nat) (a : List Nat) (k i : Nat) : List Nat := tab a.length fun j => if j < i then a.getD j 0 * k % m else 0
theorem scT_0 {m : Nat} {a : List Nat} {k : Nat} : scT m a k 0 = List.replicate a.length 0 := by
  unfold scT
  simp only [Nat.not_lt_zero, if_false]
  exact tab_rep.symm
theorem scT_lt {s : Int} {a : List Nat} {k i : Nat} : ∀ x ∈ scT (md s) a k i, x < W256 := by
  intro x hx
  simp only [scT, tab, List.mem_map, List.mem_range] at hx
  obtain ⟨j, hj, rfl⟩ := hx
  split
  · exact md_w s _
  · decide
def pScale (a : List Nat) (k : Nat) : List Nat := a.map (· * k)
theorem scT_tp {m : Nat} {a : List Nat} {k : Nat} : tp m (scT m a k a.length) = tp m (pScale a k) := by
  refine tp_congr fun i => ?_
  unfold pScale
  rw [getD_map (f := (· * k)) (Nat.zero_mul k)]
  by_cases hi : i < a.length
  · unfold scT
    rw [tab_at hi, if_pos hi, Nat.mod_mod]
  · unfold scT
    rw [tab_out (by omega), getD_out (l := a) (by omega), Nat.zero_mul]
theorem u_PScale (s : Int) (a : List Nat) (k : Nat) (ha : ∀ x ∈ a, x < W256) (hk : k < W256) (hl : a.length * 32 ≤ 140737488355328) :
    Contract Try.prog 28 [.val (.int .i64 s), .sl a.length 4 (LC eC a), .val (EN k)] [.part (tp (md s) (pScale a k)).length 4 (LC eC (tp (md s) (pScale a k)))] := by
  refine contract_of (N := _) (vars := _) (c := bodyOf Try.f28) Try.func28 (body_eq rfl) rfl rfl (by rfl) mixed _ _ trivial 1000 ?_
  simp only [bodyOf, Try.f28, Option.getD_some, argA, argE, List.length_cons, List.length_nil, Nat.reduceAdd, Nat.reduceSub, List.replicate, List.cons_append, List.nil_append]
  simp only [↓PX, SX, SYX, EY, simprocAttr, TYX, UX]
  repeat (first | refine DrawVC.intro (by kernel_rfl) ?_ | refine And.intro (by omega) ?_ | exact trivial)
  refine loop_hav ?_
  simp only [↓PX, SX, SYX, EY, simprocAttr, TYX, UX]
  refine loop_go mixed (by trivial) (γ := Nat) (fun i => i ≤ a.length) (fun i => a.length - i) (fun i => [(15, iv i)]) (fun i => [(19, .row 25 4 a.length (LC eC (scT (md s) a k i)))]) 0 (by omega)
    (St.le_of id (by simp [-List.getD_eq_getElem?_getD, SYX, iv, Tle, AVle, A0le, Mem.get, scT_0]) (by simp [-List.getD_eq_getElem?_getD, SYX, Mle, Ele, Hle, Tle, AVle, A0le, Mem.get, scT_0]) (by simp [SYX]) (by simp [SYX])) ?_
  intro i hi
  simp only [↓PX, SX, SYX, EY, simprocAttr, TYX, UX]
  refine cond_split (fun h0 => ?_) (fun h0 => ?_)
  · have h0 : i < a.length := by simpa using h0
    have hx := getD_lt ha h0
    have hlen : (scT (md s) a k i).length = a.length := by unfold scT; rw [tab_len]
    have e3 := eL_st (v := a.getD i 0 * k % md s) (show i < (scT (md s) a k i).length by omega)
    have e4 : (scT (md s) a k i).set i (a.getD i 0 * k % md s) = scT (md s) a k (i + 1) := by
      unfold scT
      rw [tab_set]
      refine tab_congr fun j _ => ?_
      by_cases hj : j = i
      · subst hj; simp
      · have : (j < i + 1) = (j < i) := by rw [eq_iff_iff]; omega
        simp [hj, this]
    rw [e4] at e3
    simp only [↓PX, SX, SYX, EY, simprocAttr, TYX, UX, eL_ld h0]
    repeat (first | refine DrawVC.intro (by kernel_rfl) ?_ | refine And.intro (by omega) ?_ | exact trivial)
    refine CallVC.intro (u_Mul s _ _ hx hk) ⟨rfl, rfl, rfl, trivial⟩ rfl rfl ?_
    simp only [↓PX, SX, SYX, EY, simprocAttr, TYX, UX, hlen, e3, wS (j := i) (by omega)]
    repeat (first | refine DrawVC.intro (by kernel_rfl) ?_ | refine And.intro (by omega) ?_ | exact trivial)
    exact ⟨i + 1, by omega, by omega, (St.le_of id (by simp [-List.getD_eq_getElem?_getD, SYX, iv, Tle, AVle, A0le, Mem.get]) (by simp [-List.getD_eq_getElem?_getD, SYX, Mle, Ele, Hle, Tle, AVle, A0le, Mem.get]) (by simp [SYX]) (by simp [SYX]))⟩
  · have h0 : i = a.length := by
      have : a.length ≤ i := by simpa using h0
      omega
    subst h0
    have hlen : (scT (md s) a k a.length).length = a.length := by unfold scT; rw [tab_len]
    have hc := u_Trim s (scT (md s) a k a.length) scT_lt (by rw [hlen]; exact hl)
    rw [scT_tp, hlen] at hc
    simp only [↓PX, SX, SYX, EY, simprocAttr, TYX, UX]
    refine CallVC.intro (hc) ⟨rfl, (by simp only [argMatch, SX, SYX, EY, simprocAttr, and_self, List.length_append, List.length_map, List.length_set, TYX, UX, hlen]), trivial⟩ rfl rfl ?_
    simp only [↓PX, SX, SYX, EY, simprocAttr, TYX, UX, hlen]
/-! ### the reference -/
theorem tabW' {n : Nat} {f : Nat → Nat} (h : ∀ i, f i < W256) : ∀ x ∈ tab n f, x < W256 := by
  intro x hx
  simp only [tab, List.mem_map, List.mem_range] at hx
  obtain ⟨j, hj, rfl⟩ := hx
  exact h j
theorem tabW {s : Int} {n : Nat} {f : Nat → Nat} : ∀ x ∈ tab n (fun i => f i % md s), x < W256 := tabW' fun _ => md_w s _
theorem scV_tp {m : Nat} {a : List Nat} {k : Nat} : tp m (tab a.length fun i => a.getD i 0 * k % m) = tp m (pScale a k) := by
  rw [← scT_tp]
  unfold scT
  congr 1
  exact tab_congr fun j hj => by rw [if_pos hj]
theorem v_PScale (s : Int) (a : List Nat) (k : Nat) (ha : ∀ x ∈ a, x < W256) (hk : k < W256) (hl : a.length * 32 ≤ 140737488355328) :
    Contract Try.prog 29 [.val (.int .i64 s), .sl a.length 4 (LC eC a), .val (EN k)] [.part (tp (md s) (pScale a k)).length 4 (LC eC (tp (md s) (pScale a k)))] := by
  refine contract_of (N := _) (vars := _) (c := bodyOf Try.f29) Try.func29 (body_eq rfl) rfl rfl (by rfl) mixed _ _ trivial 1000 ?_
  simp only [bodyOf, Try.f29, Option.getD_some, argA, argE, List.length_cons, List.length_nil, Nat.reduceAdd, Nat.reduceSub, List.replicate, List.cons_append, List.nil_append]
  simp only [↓PX, SX, SYX, EY, simprocAttr, TYX, UX]
  refine loop_hav ?_
  simp only [↓PX, SX, SYX, EY, simprocAttr, TYX, UX]
  refine loop_go mixed (by trivial) (γ := Nat) (fun i => i ≤ a.length) (fun i => a.length - i) (fun i => [(7, .o (.r 11 i)), (8, iv i), (9, .o .any)]) (fun i => [(11, .row 25 4 i (LC eC (tab i fun i => a.getD i 0 * k % md s)))]) 0 (by omega)
    (St.le_of id (by simp [-List.getD_eq_getElem?_getD, SYX, iv, Tle, AVle, A0le, Mem.get, tab_0, eL_nil]) (by simp [-List.getD_eq_getElem?_getD, SYX, Mle, Ele, Hle, Tle, AVle, A0le, Mem.get, tab_0, eL_nil]) (by simp [SYX]) (by simp [SYX])) ?_
  intro i hi
  simp only [↓PX, SX, SYX, EY, simprocAttr, TYX, UX]
  refine cond_split (fun h0 => ?_) (fun h0 => ?_)
  · have h0 : i < a.length := by simpa using h0
    have hx := getD_lt ha h0
    have hlen : (tab i fun i => a.getD i 0 * k % md s).length = i := tab_len
    have e3 := tab_snoc (n := i) (f := fun i => a.getD i 0 * k % md s)
    simp only [↓PX, SX, SYX, EY, simprocAttr, TYX, UX, eL_ld h0]
    repeat (first | refine DrawVC.intro (by kernel_rfl) ?_ | refine And.intro (by omega) ?_ | exact trivial)
    refine CallVC.intro (v_Mul s _ _ hx hk) ⟨rfl, rfl, rfl, trivial⟩ rfl rfl ?_
    simp only [↓PX, SX, SYX, EY, simprocAttr, TYX, UX, hlen, e3, wS (j := i) (by omega)]
    repeat (first | refine DrawVC.intro (by kernel_rfl) ?_ | refine And.intro (by omega) ?_ | exact trivial)
    exact ⟨i + 1, by omega, by omega, (St.le_of (ren [(11, 75)]) (by simp [-List.getD_eq_getElem?_getD, SYX, iv, ren, Tle, AVle, A0le, Mem.get, e3]) (by simp [-List.getD_eq_getElem?_getD, SYX, ren, Mle, Ele, Mem.get, e3]) (by simp [SYX, ren]) (by simp [SYX]))⟩
  · have h0 : i = a.length := by
      have : a.length ≤ i := by simpa using h0
      omega
    subst h0
    have hlen : (tab a.length fun i => a.getD i 0 * k % md s).length = a.length := tab_len
    have hc := v_Trim s (tab a.length fun i => a.getD i 0 * k % md s) tabW (by rw [hlen]; exact hl)
    rw [scV_tp, hlen] at hc
    simp only [↓PX, SX, SYX, EY, simprocAttr, TYX, UX]
    refine CallVC.intro (hc) ⟨rfl, (by simp only [argMatch, SX, SYX, EY, simprocAttr, and_self, List.length_append, List.length_map, List.length_set, TYX, UX, hlen]), trivial⟩ rfl rfl ?_
    simp only [↓PX, SX, SYX, EY, simprocAttr, TYX, UX, hlen]
def adV (m : Nat) (a b : List Nat) (i : Nat) : Nat := if i < b.length then (a.getD i 0 + b.getD i 0) % m else a.getD i 0
theorem adV_tp {m : Nat} {a b : List Nat} : tp m (tab (max a.length b.length) (adV m a b)) = tp m (pAdd a b) := by
  refine tp_congr fun i => ?_
  rw [pAdd_getD]
  by_cases hi : i < max a.length b.length
  · rw [tab_at hi]
    unfold adV
    split
    · rw [Nat.mod_mod]
    · rw [getD_out (l := b) (by omega), Nat.add_zero]
  · rw [tab_out (by omega), getD_out (l := a) (by omega), getD_out (l := b) (by omega)]
theorem adV_lt {s : Int} {a b : List Nat} (ha : ∀ x ∈ a, x < W256) (i : Nat) : adV (md s) a b i < W256 := by
  unfold adV
  split
  · exact md_w s _
  · by_cases h : i < a.length
    · exact getD_lt ha h
    · rw [getD_out (by omega)]; decide
theorem v_PAdd (s : Int) (a b : List Nat) (ha : ∀ x ∈ a, x < W256) (hb : ∀ x ∈ b, x < W256) (hl : a.length * 32 ≤ 140737488355328) (hl2 : b.length * 32 ≤ 140737488355328) :
    Contract Try.prog 27 [.val (.int .i64 s), .sl a.length 4 (LC eC a), .sl b.length 4 (LC eC b)] [.part (tp (md s) (pAdd a b)).length 4 (LC eC (tp (md s) (pAdd a b)))] := by
  refine contract_of (N := _) (vars := _) (c := bodyOf Try.f27) Try.func27 (body_eq rfl) rfl rfl (by rfl) mixed _ _ trivial 1000 ?_
  simp only [bodyOf, Try.f27, Option.getD_some, argA, argE, List.length_cons, List.length_nil, Nat.reduceAdd, Nat.reduceSub, List.replicate, List.cons_append, List.nil_append]
  simp only [↓PX, SX, SYX, EY, simprocAttr, TYX, UX]
  refine loop_hav ?_
  simp only [↓PX, SX, SYX, EY, simprocAttr, TYX, UX]
  refine loop_go mixed (by trivial) (γ := Nat) (fun i => i ≤ max a.length b.length) (fun i => max a.length b.length - i) (fun i => [(7, .o (.r 7 i)), (8, iv i), (10, .o .any)]) (fun i => [(7, .row 25 4 i (LC eC (tab i (adV (md s) a b))))]) 0 (by omega)
    (St.le_of id (by simp [-List.getD_eq_getElem?_getD, SYX, iv, Tle, AVle, A0le, Mem.get, tab_0, eL_nil]) (by simp [-List.getD_eq_getElem?_getD, SYX, Mle, Ele, Hle, Tle, AVle, A0le, Mem.get, tab_0, eL_nil]) (by simp [SYX]) (by simp [SYX])) ?_
  intro i hi
  have hlen : (tab i (adV (md s) a b)).length = i := tab_len
  have e3 := tab_snoc (n := i) (f := adV (md s) a b)
  by_cases h1 : i < a.length
  · have d1 : decide ((i : Int) < (a.length : Int)) = true := by simpa using h1
    have hx := getD_lt ha h1
    by_cases h2 : i < b.length
    · have d2 : decide ((i : Int) < (b.length : Int)) = true := by simpa using h2
      have hy := getD_lt hb h2
      have e4 : adV (md s) a b i = (a.getD i 0 + b.getD i 0) % md s := if_pos h2
      rw [e4] at e3
      simp only [↓PX, SX, SYX, EY, simprocAttr, TYX, UX, d1, d2, eL_ld h1, eL_ld h2]
      repeat (first | refine DrawVC.intro (by kernel_rfl) ?_ | refine And.intro (by omega) ?_ | exact trivial)
      refine CallVC.intro (v_Add s _ _ hx hy) ⟨rfl, rfl, rfl, trivial⟩ rfl rfl ?_
      simp only [↓PX, SX, SYX, EY, simprocAttr, TYX, UX, hlen, e3, wS (j := i) (by omega)]
      repeat (first | refine DrawVC.intro (by kernel_rfl) ?_ | refine And.intro (by omega) ?_ | exact trivial)
      exact ⟨i + 1, by omega, by omega, (St.le_of (ren [(7, 167)]) (by simp [-List.getD_eq_getElem?_getD, SYX, iv, ren, Tle, AVle, A0le, Mem.get, e3]) (by simp [-List.getD_eq_getElem?_getD, SYX, ren, Mle, Ele, Mem.get, e3]) (by simp [SYX, ren]) (by simp [SYX]))⟩
    · have d2 : decide ((i : Int) < (b.length : Int)) = false := by simpa using h2
      have e4 : adV (md s) a b i = a.getD i 0 := if_neg h2
      rw [e4] at e3
      simp only [↓PX, SX, SYX, EY, simprocAttr, TYX, UX, d1, d2, eL_ld h1, hlen, e3, wS (j := i) (by omega)]
      repeat (first | refine DrawVC.intro (by kernel_rfl) ?_ | refine And.intro (by omega) ?_ | exact trivial)
      refine ⟨i + 1, by omega, by omega, (St.le_of (ren [(7, 135)]) (by simp [-List.getD_eq_getElem?_getD, SYX, iv, ren, Tle, AVle, A0le, Mem.get, e3]) (by simp [-List.getD_eq_getElem?_getD, SYX, ren, Mle, Ele, Mem.get, e3]) (by simp [SYX, ren]) (by simp [SYX]))⟩
  · have d1 : decide ((i : Int) < (a.length : Int)) = false := by simpa using h1
    by_cases h2 : i < b.length
    · have d2 : decide ((i : Int) < (b.length : Int)) = true := by simpa using h2
      have hy := getD_lt hb h2
      have e4 : adV (md s) a b i = (a.getD i 0 + b.getD i 0) % md s := if_pos h2
      rw [getD_out (l := a) (by omega), Nat.zero_add] at e4
      rw [e4] at e3
      simp only [↓PX, SX, SYX, EY, simprocAttr, TYX, UX, d1, d2, eL_ld h2]
      repeat (first | refine DrawVC.intro (by kernel_rfl) ?_ | refine And.intro (by omega) ?_ | exact trivial)
      refine CallVC.intro (v_Add s 0 _ (by decide) hy) ⟨rfl, rfl, rfl, trivial⟩ rfl rfl ?_
      simp only [↓PX, SX, SYX, EY, simprocAttr, TYX, UX, hlen, e3, wS (j := i) (by omega)]
      repeat (first | refine DrawVC.intro (by kernel_rfl) ?_ | refine And.intro (by omega) ?_ | exact trivial)
      exact ⟨i + 1, by omega, by omega, (St.le_of (ren [(7, 147)]) (by simp [-List.getD_eq_getElem?_getD, SYX, iv, ren, Tle, AVle, A0le, Mem.get, e3]) (by simp [-List.getD_eq_getElem?_getD, SYX, ren, Mle, Ele, Mem.get, e3]) (by simp [SYX, ren]) (by simp [SYX]))⟩
    · have d2 : decide ((i : Int) < (b.length : Int)) = false := by simpa using h2
      have h0 : i = max a.length b.length := by omega
      have hc := v_Trim s (tab i (adV (md s) a b)) (tabW' (adV_lt ha)) (by rw [hlen]; omega)
      rw [h0, adV_tp, ← h0, hlen] at hc
      simp only [↓PX, SX, SYX, EY, simprocAttr, TYX, UX, d1, d2]
      refine CallVC.intro (hc) ⟨rfl, (by simp only [argMatch, SX, SYX, EY, simprocAttr, and_self, List.length_append, List.length_map, List.length_set, TYX, UX, hlen]), trivial⟩ rfl rfl ?_
      simp only [↓PX, SX, SYX, EY, simprocAttr, TYX, UX, hlen]
end Go.Sx
namespace Go.Sx
open Go.Proofs
-- SY
-- TY: TYX, UX
set_option maxRecDepth 100000
set_option linter.unusedSimpArgs false
set_option pp.deepTerms true
set_option pp.maxSteps 100000
/-- The value at x. -/
def evp (m x : Nat) : List Nat → Nat
  | [] => 0
  | c :: l => (evp m x l * x % m + c) % m
theorem evp_lt (s : Int) (x : Nat) (l : List Nat) : evp (md s) x l < W256 := by
  cases l with
  | nil => unfold evp; decide
  | cons c l => exact md_w s _
theorem eC_0 : eC 0 = [u64 0, u64 0, u64 0, u64 0] := rfl
theorem u_Eval (s : Int) (l : List Nat) (x : Nat) (hl : ∀ y ∈ l, y < W256) (hx : x < W256) (hb : l.length * 32 ≤ 140737488355328) :
    Contract Try.prog 30 [.val (.int .i64 s), .sl l.length 4 (LC eC l), .val (EN x)] [.val (EN (evp (md s) x l))] := by
  refine contract_of0 (N := _) (vars := _) (c := bodyOf Try.f30) Try.func30 (body_eq rfl) rfl rfl (by rfl) _ _ ?_
  simp only [bodyOf, Try.f30, Option.getD_some, argA, argE, List.length_cons, List.length_nil, Nat.reduceAdd, Nat.reduceSub, List.replicate, List.cons_append, List.nil_append]
  refine sv0_seq mixed (by trivial) 1000 ?_
  simp only [↓PX, SX, SYX, EY, simprocAttr, TYX, UX]
  refine sv0_seq mixed (by trivial) 1000 ?_
  simp only [↓PX, SX, SYX, EY, simprocAttr, TYX, UX]
  refine sv0_seq' ?_
  refine sv0_seq mixed (by trivial) 1000 ?_
  simp only [↓PX, SX, SYX, EY, simprocAttr, TYX, UX]
  refine CallVC.inline (N := _) (vars := _) (c := bodyOf Try.f73) Try.func73 (body_eq rfl) rfl rfl (by rfl) mixed (by rfl) 0 (by rfl) ?_
  simp only [bodyOf, Try.f73, Option.getD_some, List.length_cons, List.length_nil, Nat.reduceAdd, Nat.reduceSub, List.replicate, List.cons_append, List.nil_append]
  simp only [↓PX, SX, SYX, EY, simprocAttr, TYX, UX]
  refine sv0_block ?_
  refine range_go mixed 0 0 l.length (fun q => [(15, .box (eC (evp (md s) x (l.drop (l.length - q)))))]) (fun q => l.getD (l.length - 1 - q) 0) 1 0 (by rfl) (by omega) rfl ?_ (fun q => .inl (by rfl)) ?_ ?_ ?_
  · exact (MLe_of id (by simp [-List.getD_eq_getElem?_getD, SYX, iv, Mle, Ele, Hle, Tle, AVle, A0le, Mem.get, evp, eC_0]) (by simp [SYX]) (by simp [SYX]))
  · intro q hq
    refine ⟨_, _, rfl, rfl, ?_⟩
    rw [Nat.zero_add]
    exact LC_at eC_len (by rw [List.getD_eq_getElem?_getD, List.getElem?_eq_getElem (by omega)]; rfl)
  · intro q hq
    have hy : l.getD (l.length - 1 - q) 0 < W256 := getD_lt hl (by omega)
    have hz : evp (md s) x (List.drop (l.length - q) l) < W256 := evp_lt _ _ _
    have e1 : (evp (md s) x (List.drop (l.length - q) l) * x % md s + l.getD (l.length - 1 - q) 0) % md s = evp (md s) x (List.drop (l.length - (q + 1)) l) := by
      have h1 : l.length - (q + 1) = l.length - 1 - q := by omega
      have h2 : l.length - q = l.length - 1 - q + 1 := by omega
      have h3 : List.drop (l.length - 1 - q) l = l.getD (l.length - 1 - q) 0 :: List.drop (l.length - 1 - q + 1) l := by
        rw [List.drop_eq_getElem_cons (show l.length - 1 - q < l.length by omega)]
        congr 1
        rw [List.getD_eq_getElem?_getD, List.getElem?_eq_getElem (by omega)]; rfl
      rw [h1, h2, h3]
      rfl
    simp only [↓PX, SX, SYX, EY, simprocAttr, TYX, UX]
    repeat (first | refine DrawVC.intro (by kernel_rfl) ?_ | refine And.intro (by omega) ?_ | exact trivial)
    refine CallVC.intro (u_Mul s _ _ hz hx) ⟨rfl, rfl, rfl, trivial⟩ rfl rfl ?_
    simp only [↓PX, SX, SYX, EY, simprocAttr, TYX, UX]
    refine CallVC.intro (u_Add s _ _ (md_w s _) hy) ⟨rfl, rfl, rfl, trivial⟩ rfl rfl ?_
    simp only [↓PX, SX, SYX, EY, simprocAttr, TYX, UX]
    rw [e1]
    exact (MLe_of id (by simp [-List.getD_eq_getElem?_getD, SYX, iv, Mle, Ele, Hle, Tle, AVle, A0le, Mem.get, eC]) (by simp [SYX]) (by simp [SYX]))
  · show SV0 _ _ _ _ _
    refine sv0_run mixed (by trivial) 1000 ?_
    simp only [↓PX, SX, SYX, EY, simprocAttr, TYX, UX, Nat.sub_self, List.drop_zero]
theorem v_Eval6 (s : Int) (l : List Nat) (x : Nat) (hl : ∀ y ∈ l, y < W256) (hx : x < W256) (hb : l.length * 32 ≤ 140737488355328) :
    Contract Try.prog 54 [.val (.int .i64 s), .sl l.length 4 (LC eC l), .val (EN x)] [.val (EN (evp (md s) x l))] := by
  refine contract_of (N := _) (vars := _) (c := bodyOf Try.f54) Try.func54 (body_eq rfl) rfl rfl (by rfl) mixed _ _ trivial 1000 ?_
  simp only [bodyOf, Try.f54, Option.getD_some, argA, argE, List.length_cons, List.length_nil, Nat.reduceAdd, Nat.reduceSub, List.replicate, List.cons_append, List.nil_append]
  simp only [↓PX, SX, SYX, EY, simprocAttr, TYX, UX]
  refine loop_hav ?_
  simp only [↓PX, SX, SYX, EY, simprocAttr, TYX, UX]
  refine loop_go mixed (by trivial) (γ := Nat) (fun q => q ≤ l.length) (fun q => l.length - q) (fun q => [(8, .o (.v (.int .i64 ((l.length : Int) - 1 - q))))]) (fun q => [(15, .box (eC (evp (md s) x (l.drop (l.length - q)))))]) 0 (by omega)
    (St.le_of id (by simp [-List.getD_eq_getElem?_getD, SYX, iv, Tle, AVle, A0le, Mem.get, evp, eC, wI (n := (l.length : Int) - 1) (by omega) (by omega)]) (by simp [-List.getD_eq_getElem?_getD, SYX, Mle, Ele, Hle, Tle, AVle, A0le, Mem.get, evp, eC, wI (n := (l.length : Int) - 1) (by omega) (by omega)]) (by simp [SYX]) (by simp [SYX])) ?_
  intro q hq
  have hz : evp (md s) x (List.drop (l.length - q) l) < W256 := evp_lt _ _ _
  simp only [↓PX, SX, SYX, EY, simprocAttr, TYX, UX]
  refine cond_split (fun h0 => ?_) (fun h0 => ?_)
  · have h0 : q < l.length := by
      have := of_decide_eq_true h0
      omega
    have hy : l.getD (l.length - 1 - q) 0 < W256 := getD_lt hl (by omega)
    have e2 : ((l.length : Int) - 1 - q) = ((l.length - 1 - q : Nat) : Int) := by omega
    have e1 : (evp (md s) x (List.drop (l.length - q) l) * x % md s + l.getD (l.length - 1 - q) 0) % md s = evp (md s) x (List.drop (l.length - (q + 1)) l) := by
      have h1 : l.length - (q + 1) = l.length - 1 - q := by omega
      have h2 : l.length - q = l.length - 1 - q + 1 := by omega
      have h3 : List.drop (l.length - 1 - q) l = l.getD (l.length - 1 - q) 0 :: List.drop (l.length - 1 - q + 1) l := by
        rw [List.drop_eq_getElem_cons (show l.length - 1 - q < l.length by omega)]
        congr 1
        rw [List.getD_eq_getElem?_getD, List.getElem?_eq_getElem (by omega)]; rfl
      rw [h1, h2, h3]
      rfl
    have e3 : IntKind.i64.wrap (((l.length - 1 - q : Nat) : Int) - 1) = (l.length : Int) - 1 - ((q + 1 : Nat) : Int) := by
      rw [wI (by omega) (by omega)]; omega
    rw [e2]
    simp only [↓PX, SX, SYX, EY, simprocAttr, TYX, UX, eL_ld (l := l) (j := l.length - 1 - q) (by omega)]
    repeat (first | refine DrawVC.intro (by kernel_rfl) ?_ | refine And.intro (by omega) ?_ | exact trivial)
    refine CallVC.intro (v_Mul s _ _ hz hx) ⟨rfl, rfl, rfl, trivial⟩ rfl rfl ?_
    simp only [↓PX, SX, SYX, EY, simprocAttr, TYX, UX, eL_ld (l := l) (j := l.length - 1 - q) (by omega)]
    repeat (first | refine DrawVC.intro (by kernel_rfl) ?_ | refine And.intro (by omega) ?_ | exact trivial)
    refine CallVC.intro (v_Add s _ _ (md_w s _) hy) ⟨rfl, rfl, rfl, trivial⟩ rfl rfl ?_
    simp only [↓PX, SX, SYX, EY, simprocAttr, TYX, UX, e1, e3]
    exact ⟨q + 1, by omega, by omega, (St.le_of id (by simp [-List.getD_eq_getElem?_getD, SYX, iv, Tle, AVle, A0le, Mem.get, eC]) (by simp [-List.getD_eq_getElem?_getD, SYX, Mle, Ele, Hle, Tle, AVle, A0le, Mem.get, eC]) (by simp [SYX]) (by simp [SYX]))⟩
  · have h0 : q = l.length := by
      have := of_decide_eq_false h0
      omega
    subst h0
    simp only [↓PX, SX, SYX, EY, simprocAttr, TYX, UX, Nat.sub_self, List.drop_zero]
theorem v_Eval (s : Int) (l : List Nat) (x : Nat) (hl : ∀ y ∈ l, y < W256) (hx : x < W256) (hb : l.length * 32 ≤ 140737488355328) :
    Contract Try.prog 31 [.val (.int .i64 s), .sl l.length 4 (LC eC l), .val (EN x)] [.val (EN (evp (md s) x l))] := by
  cases hk : kn s with
  | false =>
    have hm : md s = 1 := by cases srt s with | no _ _ hm => exact hm | yes h => rw [hk] at h; cases h
    have e1 : evp (md s) x l = 0 := by rw [hm]; cases l <;> simp [evp, Nat.mod_one]
    rw [e1]
    refine contract_of (N := _) (vars := _) (c := bodyOf Try.f31) Try.func31 (body_eq rfl) rfl rfl (by rfl) mixed _ _ trivial 1000 ?_
    simp only [bodyOf, Try.f31, Option.getD_some, argA, argE, List.length_cons, List.length_nil, Nat.reduceAdd, Nat.reduceSub, List.replicate, List.cons_append, List.nil_append]
    simp only [↓PX, SX, SYX, EY, simprocAttr, TYX, UX]
    refine CallVC.intro (v_known s) ⟨rfl, trivial⟩ rfl rfl ?_
    simp only [↓PX, SX, SYX, EY, simprocAttr, TYX, UX, hk]
  | true =>
    refine contract_of (N := _) (vars := _) (c := bodyOf Try.f31) Try.func31 (body_eq rfl) rfl rfl (by rfl) mixed _ _ trivial 1000 ?_
    simp only [bodyOf, Try.f31, Option.getD_some, argA, argE, List.length_cons, List.length_nil, Nat.reduceAdd, Nat.reduceSub, List.replicate, List.cons_append, List.nil_append]
    simp only [↓PX, SX, SYX, EY, simprocAttr, TYX, UX]
    refine CallVC.intro (v_known s) ⟨rfl, trivial⟩ rfl rfl ?_
    simp only [↓PX, SX, SYX, EY, simprocAttr, TYX, UX, hk]
    refine CallVC.intro (v_Eval6 s l x hl hx hb) ⟨rfl, (by simp only [argMatch, SX, SYX, EY, simprocAttr, and_self, List.length_append, List.length_map, List.length_set, TYX, UX]), rfl, trivial⟩ rfl rfl ?_
    simp only [↓PX, SX, SYX, EY, simprocAttr, TYX, UX]
end Go.Sx
