/-
  The machine: contracts out of code. No conditions.
-/
import Derived.Test.YtmgheellmllfpaaSxn
namespace Go.Sx
section
variable {P : Program}

theorem noMv_moved : ∀ {as : List Arg} {ys : List Value} {b : Nat}, noMv as → ¬ moved as ys b
  | [], _, _, _, h => h
  | .val x :: as, y :: ys, b, hn, h => by
    rcases h with h | h
    · cases h
    · exact noMv_moved (as := as) hn h
  | .sl n size xs :: as, y :: ys, b, hn, h => by
    rcases h with h | h
    · cases h
    · exact noMv_moved (as := as) hn h
  | .mv .. :: _, _, _, hn, _ => hn.elim
  | .val _ :: _, [], _, _, h => h
  | .sl .. :: _, [], _, _, h => h

theorem rets_run {w0 : World} {ρ : Nat → Loc} {T : Nat → AV} {M : MemF} {N : Nat} {a : Act} {w : World} (h : SatS w0 ρ T M N a w) : ∀ {vs : List ResultVar} {rs : List Res}, retAll P T M vs rs → (retIds T vs).Nodup →
    ∃ zs, vs.length = zs.length ∧ (∀ (i : Nat) (v : ResultVar) (z : Value), vs[i]? = some v → zs[i]? = some z → (getRes a.tmps v).run P w = .ok z w) ∧ RessOK w (fun b => w0.heap.size ≤ b) rs zs ∧
      (∀ r z b, (r, z) ∈ rs.zip zs → ResBlk r z = some b → ∃ k e, k ∈ retIds T vs ∧ M k = some e ∧ e.blk (ρ k) = some b ∧ e.fresh = true)
  | [], [], _, _ => ⟨[], rfl, by simp, trivial, by simp⟩
  | v :: vs, r :: rs, hr, hnd => by
    obtain ⟨z, hz, hro, hb⟩ := retA_run h hr.1
    have hnd' : (retIds T vs).Nodup := by
      cases v with
      | tmp t => simp only [retIds] at hnd; exact (List.nodup_append.1 hnd).2.1
      | cell t ty => exact hnd
    obtain ⟨zs, h1, h2, h3, h4⟩ := rets_run h hr.2 hnd'
    have hfresh : ∀ k e b, M k = some e → e.blk (ρ k) = some b → w0.heap.size ≤ b → True := fun _ _ _ _ _ _ => trivial
    have hb' : ∀ b, ResBlk r z = some b → ∃ k e t, v = .tmp t ∧ k ∈ (match T t with | .o (.r k _) => [k] | .o (.s k _ _) => [k] | _ => []) ∧ M k = some e ∧ e.blk (ρ k) = some b ∧ e.fresh = true := by
      intro b hbb
      obtain ⟨t, k, e, rfl, hT, hM, hbk⟩ := hb b hbb
      refine ⟨k, e, t, rfl, ?_, hM, hbk, ?_⟩
      · rcases hT with ⟨n, hT⟩ | ⟨off, n, hT⟩ <;> simp [hT]
      · have hr1 : resMatch M (T t) r := hr.1
        cases r with
        | val x => simp [ResBlk] at hbb
        | row e2 s2 n2 xs2 =>
          unfold resMatch at hr1
          split at hr1
          · rename_i h2; cases h2
          · rename_i h1 _; rw [h1] at hT; rcases hT with ⟨n, hT⟩ | ⟨off, n, hT⟩ <;> cases hT
          · rename_i h1 h2; rw [h1] at hT
            rcases hT with ⟨n, hT⟩ | ⟨off, n, hT⟩
            · cases hT; rw [hM] at hr1; simp only [Option.some.injEq] at hr1; subst hr1; rfl
            · cases hT
          · rename_i h2; cases h2
          · rename_i h2; cases h2
          · rename_i h2; cases h2
          · exact hr1.elim
        | view n2 s2 xs2 =>
          unfold resMatch at hr1
          split at hr1
          · rename_i h2; cases h2
          · rename_i h2; cases h2
          · rename_i h2; cases h2
          · rename_i h1 _; rw [h1] at hT; rcases hT with ⟨n, hT⟩ | ⟨off, n, hT⟩ <;> cases hT
          · rename_i h1 h2; rw [h1] at hT
            obtain ⟨e3, hr1⟩ := hr1
            rcases hT with ⟨n, hT⟩ | ⟨off, n, hT⟩
            · cases hT; rw [hM] at hr1; simp only [Option.some.injEq] at hr1; subst hr1; rfl
            · cases hT
          · rename_i h1 h2; rw [h1] at hT
            rcases hT with ⟨n, hT⟩ | ⟨off, n, hT⟩
            · cases hT
            · cases hT
              obtain ⟨_, _, hr1⟩ := hr1
              rw [hM] at hr1
              exact hr1.1
          · exact hr1.elim
    refine ⟨z :: zs, by simp [h1], ?_, ⟨hro, h3, ?_⟩, ?_⟩
    · intro i v' z' hv hz'
      cases i with
      | zero => simp at hv hz'; subst hv hz'; exact hz
      | succ i => exact h2 i v' z' (by simpa using hv) (by simpa using hz')
    · intro b hbb r' z' hin hbb'
      obtain ⟨k, e, t, rfl, hk, hM, hbk, hf⟩ := hb' b hbb
      obtain ⟨k', e', hk', hM', hbk', hf'⟩ := h4 r' z' b hin hbb'
      simp only [retIds] at hnd
      have hne : k ≠ k' := (List.nodup_append.1 hnd).2.2 k hk k' hk'
      rcases h.mem.apart k e k' e' hM hf hM' hne with h0 | h0
      · rw [hbk] at h0; cases h0
      · exact h0 (by rw [hbk, hbk'])
    · intro r' z' b hin hbb
      simp only [List.zip_cons_cons, List.mem_cons, Prod.mk.injEq] at hin
      rcases hin with ⟨rfl, rfl⟩ | hin
      · obtain ⟨k, e, t, rfl, hk, hM, hbk, hf⟩ := hb' b hbb
        exact ⟨k, e, by simp only [retIds, List.mem_append]; exact .inl hk, hM, hbk, hf⟩
      · obtain ⟨k, e, hk, hM, hbk, hf⟩ := h4 r' z' b hin hbb
        refine ⟨k, e, ?_, hM, hbk, hf⟩
        cases v with
        | tmp t => simp only [retIds, List.mem_append]; exact .inr hk
        | cell t ty => exact hk
  | [], _ :: _, h, _ => h.elim
  | _ :: _, [], h, _ => h.elim

theorem ress_weaken {w' : World} {new new' : Nat → Prop} (hn : ∀ b, new b → new' b) : ∀ {rs : List Res} {zs : List Value}, RessOK w' new rs zs → RessOK w' new' rs zs
  | [], [], _ => trivial
  | r :: rs, z :: zs, h => by
    refine ⟨?_, ress_weaken hn h.2.1, h.2.2⟩
    have h1 := h.1
    cases r with
    | val x => exact h1
    | row e size n xs => exact ⟨h1.1, h1.2.1, fun b hb => hn b (h1.2.2 b hb)⟩
    | view n size xs => exact ⟨h1.1, fun b h2 hb => hn b (h1.2 b h2 hb)⟩
  | [], _ :: _, h => h.elim
  | _ :: _, [], h => h.elim

/-- A contract, of what is shown of a function's code. -/
theorem contract_of {f : Nat} {fn : Func} {c : Code} {N : Nat} {vars : List ResultVar} (hf : P.funcs[f]? = some fn) (hb : fn.body = some c) (hN : fn.ntmps = N) (hv : fn.results.toList = vars) (hname : (fn.name == "runtime.NumGoroutine") = false)
    (hm : P.follows .mixedOrders = true) (as : List Arg) (rs : List Res) (hn : noMv as) (n : Nat)
    (h : vcx P (RetQ P vars rs) n [.code c] ⟨argA 0 as ++ List.replicate (N - as.length) (.o (.v undef)), argE 0 as, as.length⟩) : Contract P f as rs := by
  refine .inl ⟨callable_of hf (by rw [hb]; rfl) hname, fun w ys hargs _ => ?_⟩
  obtain ⟨ρ, hs⟩ := start_sat hn hargs N
  rw [vcx_eq] at h
  have h1 := vcs_sound hm n [.code c] _ trivial h
  rw [SVX_code] at h1
  refine calls_of_wp hf hb ?_
  rw [hN]
  refine Code.wp_mono ?_ (h1 w ρ _ w hs)
  rintro e a' w' ⟨ρ', st', hs', he⟩
  have fin : RetQ P vars rs st' → a'.defers = [] ∧ ∃ v, (results fn a'.tmps).run P w' = .ok v w' ∧ (fun e w' => ∃ zs, e = Ending.returned (pack zs) ∧ Fr w w' (moved as ys) ∧ RessOK w' (fun b => w.heap.size ≤ b ∨ moved as ys b) rs zs) (.returned v) w' := by
    rintro ⟨hr, hnd⟩
    obtain ⟨zs, z1, z2, z3, _⟩ := rets_run hs'.1 hr hnd
    refine ⟨hs'.1.defers, pack zs, results_run (by rw [hv]; exact z1) (by rw [hv]; exact z2), zs, rfl, ?_, ress_weaken (fun b hb => .inl hb) z3⟩
    have hb := hs'.1.below
    exact ⟨hb.os, hb.tape, hb.output, hb.size, fun k hk _ => hb.block k hk⟩
  cases e with
  | normal => exact fin he
  | ret => exact fin he
  | _ => exact he.elim

end
end Go.Sx
