/-
  The machine's operations, all together (op_sound). No conditions.
-/
import Derived.Test.YtmgheellmllfpaaSxf
namespace Go.Sx
section
variable {P : Program} {w0 : World} {ρ : Nat → Loc} {T : Nat → AV} {M : MemF} {N : Nat} {a : Act} {w : World} {id : Nat} {o : Oper}
  {K : Act → World → Prop} {Q : Exit → Act → World → Prop}

theorem ex_spec {op : Op} {S : Value → Prop} (he : opEff P T M id op = .ex S) : S = pureOp P T op := by
  cases op <;> simp only [opEff, binOn] at he <;> try (repeat' split at he) <;> first | (cases he; done) | (simp only [Eff.ex.injEq] at he; exact he.symm) | skip
  all_goals
    first
      | (unfold loadEff at he; repeat' split at he) <;> cases he; done
      | (unfold storeEff at he; repeat' split at he) <;> cases he; done
      | (unfold sliceEff at he; repeat' split at he) <;> cases he; done
      | (unfold binEff at he; repeat' split at he) <;> first | (cases he; done) | (simp only [Eff.ex.injEq] at he; exact he.symm)

theorem call_spec {op : Op} {f : Nat} {args : List AV} (he : opEff P T M id op = .call f args) : ∃ c : Go.Call, op = .call c ∧ c.callee = .value (.func f) ∧ args = c.args.toList.map (ev T) := by
  cases op with
  | call c =>
    simp only [opEff] at he
    split at he
    · rename_i g hg
      simp only [Eff.call.injEq] at he
      obtain ⟨rfl, rfl⟩ := he
      exact ⟨c, rfl, hg, rfl⟩
    all_goals ((repeat' split at he) <;> cases he)
  | _ =>
    simp only [opEff, binOn] at he
    (try (repeat' split at he)) <;> first
      | (cases he; done)
      | ((unfold loadEff at he; repeat' split at he) <;> cases he; done)
      | ((unfold storeEff at he; repeat' split at he) <;> cases he; done)
      | ((unfold sliceEff at he; repeat' split at he) <;> cases he; done)
      | ((unfold binEff at he; repeat' split at he) <;> cases he)

theorem unOp_op {uop : UnOp} {ty : TypeId} {x : Operand} {c : Prop} {u : Upd} (h : SatS w0 ρ T M N a w) (hop : o.op = .unOp uop ty x)
    (he : opEff P T M id (.unOp uop ty x) = .ok c u) (hK : Goes w0 ρ M id u fun y w' => K (a.put o.dst y) w') : o.wp P a w K Q := by
  simp only [opEff] at he
  split at he
  · rename_i b hx
    have hv := h.evv hx
    simp only [Eff.ok.injEq] at he
    obtain ⟨rfl, rfl⟩ := he
    refine pure_step (r := .o (.v (.bool (!b)))) h (y := .bool (!b)) ?_ rfl hK
    simp [execOp, hop, hv, Op.unary]
  · rename_i k n hx
    have hv := h.evv hx
    simp only [Eff.ok.injEq] at he
    obtain ⟨rfl, rfl⟩ := he
    refine pure_step (r := .o (.v (.int k (k.wrap (0 - n))))) h (y := .int k (k.wrap (0 - n))) ?_ rfl hK
    simp [execOp, hop, hv, Op.unary, Op.intArith]
  · cases he

theorem convert_op {src dst : TypeId} {x : Operand} {c : Prop} {u : Upd} (h : SatS w0 ρ T M N a w) (hop : o.op = .convert src dst x)
    (he : opEff P T M id (.convert src dst x) = .ok c u) (hK : Goes w0 ρ M id u fun y w' => K (a.put o.dst y) w') : o.wp P a w K Q := by
  simp only [opEff] at he
  split at he
  · rename_i k0 n d k hx hs hd
    have hv := h.evv hx
    simp only [Eff.ok.injEq] at he
    obtain ⟨rfl, rfl⟩ := he
    unfold intT at hd
    cases hu : P.underlying dst with
    | none => simp [hu] at hd
    | some dd =>
      rw [hu] at hd
      simp only [Option.bind_some] at hd
      unfold intD at hd
      split at hd
      · simp only [Option.some.injEq] at hd
        subst hd
        refine pure_step (r := .o (.v (.int _ _))) h (y := .int _ _) ?_ rfl hK
        simp [execOp, hop, hv, convert, run_underlying hs, run_underlying hu, Conv.intToInt]
      · cases hd
  · cases he

theorem len_op {c : Go.Call} {c' : Prop} {u : Upd} (h : SatS w0 ρ T M N a w) (hop : o.op = .call c) (hcal : c.callee = .builtin .len)
    (he : opEff P T M id (.call c) = .ok c' u) (hK : Goes w0 ρ M id u fun y w' => K (a.put o.dst y) w') : o.wp P a w K Q := by
  simp only [opEff, hcal] at he
  split at he
  · rename_i x ty hxs htys
    have hxs' : c.args = #[x] := by rw [← Array.toArray_toList (xs := c.args), hxs]
    have htys' : c.argTypes = #[ty] := by rw [← Array.toArray_toList (xs := c.argTypes), htys]
    split at he
    · rename_i k off len s hx hsl
      have hv := h.eval x
      rw [hx] at hv
      obtain ⟨_, o', cap, hv, _⟩ := hv
      obtain ⟨e, hu, _⟩ := slI_spec hsl
      simp only [Eff.ok.injEq] at he
      obtain ⟨rfl, rfl⟩ := he
      refine pure_step (r := .o (.v (.int .i64 len))) h (y := .int .i64 len) ?_ rfl hK
      simp [execOp, hop, resolve, hcal, hxs', htys', invoke, builtin, hv, Builtin.len_, run_underlying hu, goInt]
    · rename_i k n s hx hsl
      have hv := h.eval x
      rw [hx] at hv
      obtain ⟨_, _, o', cap, hv, _⟩ := hv
      obtain ⟨e', hu, _⟩ := slI_spec hsl
      simp only [Eff.ok.injEq] at he
      obtain ⟨rfl, rfl⟩ := he
      refine pure_step (r := .o (.v (.int .i64 n))) h (y := .int .i64 n) ?_ rfl hK
      simp [execOp, hop, resolve, hcal, hxs', htys', invoke, builtin, hv, Builtin.len_, run_underlying hu, goInt]
    · cases he
  · cases he

theorem append_op {c : Go.Call} {c' : Prop} {u : Upd} (h : SatS w0 ρ T M N a w) (hid : ∀ k, (M k).isSome = true → Out id k) (hop : o.op = .call c) (hcal : c.callee = .builtin .append)
    (he : opEff P T M id (.call c) = .ok c' u) (hc : c') (hK : Goes w0 ρ M id u fun y w' => K (a.put o.dst y) w') : o.wp P a w K Q := by
  simp only [opEff, hcal] at he
  split at he
  · rename_i x y ty ty' hxs htys
    have hxs' : c.args = #[x, y] := by rw [← Array.toArray_toList (xs := c.args), hxs]
    have htys' : c.argTypes = #[ty, ty'] := by rw [← Array.toArray_toList (xs := c.argTypes), htys]
    split at he
    · rename_i m hm
      split at he
      · rename_i q news hy
        split at he
        · rename_i k n0 hx
          split at he
          · rename_i e sz n xs hM
            simp only [Eff.ok.injEq] at he
            obtain ⟨rfl, rfl⟩ := he
            obtain ⟨rfl, h1, h2, h3, h4, h5, h6, h7⟩ := hc
            exact append_new h hid hop hcal hxs' htys' hm hx hM hy h1 h2 h3 h4 h5 h6 h7 hK
          · cases he
        · rename_i hx
          simp only [Eff.ok.injEq] at he
          obtain ⟨rfl, rfl⟩ := he
          obtain ⟨rfl, h3, h4, h5, h6, h7⟩ := hc
          exact append_nil_new h hid hop hcal hxs' htys' hm hx hy h3 h4 h5 h6 h7 hK
        · cases he
      · cases he
    · cases he
  · cases he

theorem op_sound {op : Op} {u : Upd} (h : SatS w0 ρ T M N a w) (hid : ∀ k, (M k).isSome = true → Out id k) (hop : o.op = op) (hok : OpOK P T M id op u)
    (hK : Goes w0 ρ M id u fun y w' => K (a.put o.dst y) w') : o.wp P a w K Q := by
  unfold OpOK at hok
  split at hok
  · exact hok.elim
  · rename_i c u' he
    obtain ⟨hc, rfl⟩ := hok
    cases op with
    | move x =>
      simp only [opEff, Eff.ok.injEq] at he
      obtain ⟨_, rfl⟩ := he
      exact pure_step h (y := a.eval x) (by simp [execOp, hop]) (h.eval x) hK
    | assign x =>
      simp only [opEff, Eff.ok.injEq] at he
      obtain ⟨_, rfl⟩ := he
      exact pure_step h (y := a.eval x) (by simp [execOp, hop]) (h.eval x) hK
    | pick p x y =>
      simp only [opEff] at he
      split at he
      · rename_i hp
        have hv := h.evv hp
        simp only [Eff.ok.injEq] at he
        obtain ⟨_, rfl⟩ := he
        exact pure_step h (y := a.eval x) (by simp [execOp, hop, hv, asBool]) (h.eval x) hK
      · rename_i hp
        have hv := h.evv hp
        simp only [Eff.ok.injEq] at he
        obtain ⟨_, rfl⟩ := he
        exact pure_step h (y := a.eval y) (by simp [execOp, hop, hv, asBool]) (h.eval y) hK
      · cases he
    | alloc e => exact alloc_op h hid hop he hc hK
    | box e x => exact box_op h hid hop he hc hK
    | buildSlice t len parts => exact buildSlice_op h hid hop he hc hK
    | makeSlice t l q => exact makeSlice_op h hid hop he hc hK
    | load ty x =>
      simp only [opEff] at he
      split at he
      · rename_i hx; exact load_op h hop hx he hc hK
      · cases he
    | store ty x y =>
      simp only [opEff] at he
      split at he
      · rename_i hx hy; exact store_op h hop hx hy he hc hK
      · cases he
    | indexAddr ty x i => exact indexAddr_op h hop he hc hK
    | fieldAddr ty x f => exact fieldAddr_op h hop he hc hK
    | slice ty x lo hi mx => exact slice_op h hop he hc hK
    | sliceToArrayPointer ty x => exact sliceToArray_op h hop he hc hK
    | extract x i => exact extract_op h hop he hc hK
    | binOp bop ty x y ty' =>
      simp only [opEff, binOn] at he
      split at he
      · rename_i hx hy; exact binOp_op h hop hx hy (by intro c u; simp) he hc hK
      · cases he
    | unOp uop ty x => exact unOp_op h hop he hK
    | convert src dst x => exact convert_op h hop he hK
    | call cl =>
      cases hcal : cl.callee with
      | builtin b =>
        cases b with
        | len => exact len_op h hop hcal he hK
        | append => exact append_op h hid hop hcal he hc hK
        | _ => simp only [opEff, hcal] at he; cases he
      | value f => cases f <;> (simp only [opEff, hcal] at he; cases he)
      | invoke r m => simp only [opEff, hcal] at he; cases he
    | _ => simp only [opEff] at he; cases he
  · rename_i S he
    obtain ⟨z, hz, rfl⟩ := hok
    rw [ex_spec he] at hz
    exact pureOp_step h hop hz hK
  · rename_i f args he
    obtain ⟨c, rfl, hcal, rfl⟩ := call_spec he
    exact call_op h hid hop hcal hok hK
end
end Go.Sx
