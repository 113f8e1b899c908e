/-
  The machine: a loop's rule that forgets what the loop writes; lists of cells. No conditions.
-/
import Derived.Test.YtmgheellmllfpaaSxs
namespace Go.Sx

/-! ### a loop that forgets -/
def dstOps : List Oper → List Nat
  | [] => []
  | ⟨some d, _, _, _, _, _⟩ :: l => d :: dstOps l
  | ⟨none, _, _, _, _, _⟩ :: l => dstOps l
def dsts : Code → List Nat
  | .region _ ops _ => dstOps ops.toList
  | .seq a b => dsts a ++ dsts b
  | .cond _ a b => dsts a ++ dsts b
  | .block _ c => dsts c
  | .loop c => dsts c
  | .scope c => dsts c
  | _ => []
def hav : List Nat → List AV → List AV
  | [], t => t
  | d :: ds, t => hav ds (t.set d (.o .any))
/-- Tuples are forgotten. -/
def noT : List AV → List AV
  | [] => []
  | .o a :: l => .o a :: noT l
  | .t _ :: l => .o .any :: noT l
theorem nt_0 : noT [] = [] := rfl
theorem nt_o {a l} : noT (.o a :: l) = .o a :: noT l := rfl
theorem nt_t {a l} : noT (.t a :: l) = .o .any :: noT l := rfl
def upT : List (Nat × AV) → List AV → List AV
  | [], t => t
  | (i, v) :: l, t => upT l (t.set i v)
def upE : List (Nat × Ent) → Mem → Mem
  | [], m => m
  | (k, e) :: l, m => upE l (m.map fun y => (y.1, if y.1 = k then e else y.2))
theorem ds_some {d op ty pos after g} {l : List Oper} : dstOps (⟨some d, op, ty, pos, after, g⟩ :: l) = d :: dstOps l := rfl
theorem ds_none {op ty pos after g} {l : List Oper} : dstOps (⟨none, op, ty, pos, after, g⟩ :: l) = dstOps l := rfl
theorem ds_nil : dstOps [] = [] := rfl
theorem ds_region {id dr} {l : List Oper} : dsts (.region id l.toArray dr) = dstOps l := rfl
theorem ds_seq {a b : Code} : dsts (.seq a b) = dsts a ++ dsts b := rfl
theorem ds_cond {c} {a b : Code} : dsts (.cond c a b) = dsts a ++ dsts b := rfl
theorem ds_block {id} {a : Code} : dsts (.block id a) = dsts a := rfl
theorem ds_loop {a : Code} : dsts (.loop a) = dsts a := rfl
theorem ds_scope {a : Code} : dsts (.scope a) = dsts a := rfl
theorem ds_skip : dsts .skip = [] := rfl
theorem ds_exit {id} : dsts (.exit id) = [] := rfl
theorem ds_ret : dsts .ret = [] := rfl
theorem hav_nil {t} : hav [] t = t := rfl
theorem hav_cons {d ds t} : hav (d :: ds) t = hav ds (t.set d (.o .any)) := rfl
@[congr] theorem dstOps_congr {l : List Oper} : dstOps l = dstOps l := rfl
@[congr] theorem dsts_congr {c : Code} : dsts c = dsts c := rfl
theorem up_nil {t} : upT [] t = t := rfl
theorem up_cons {i v l t} : upT ((i, v) :: l) t = upT l (t.set i v) := rfl
theorem ue_nil {m} : upE [] m = m := rfl
theorem ue_cons {k e l m} : upE ((k, e) :: l) m = upE l (m.map fun y => (y.1, if y.1 = k then e else y.2)) := rfl

section
variable {P : Program} {Q : St → Prop}
/-- The loop is to be gone through; t' is what the slots are known to be all the time. -/
def LoopH (P : Program) (Q : St → Prop) (c : Code) (k : List Frm) (st : St) (_ : List AV) : Prop := LoopX P Q c k st
theorem loop_hav {c k t m n} (h : LoopH P Q c k ⟨t, m, n⟩ (noT (hav (dsts c) t))) : LoopX P Q c k ⟨t, m, n⟩ := h
@[congr] theorem LoopH_congr {c k st} {t t' : List AV} (h : t = t') : LoopH P Q c k st t = LoopH P Q c k st t' := by rw [h]
/-- The rule: what changes from round to round is told by g. -/
theorem loop_go {c : Code} {k : List Frm} {t t' : List AV} {m : Mem} {n : Nat} {γ : Type} (hm : P.follows .mixedOrders = true) (hk : noOps k) (G : γ → Prop) (μ : γ → Nat) (ts : γ → List (Nat × AV)) (es : γ → List (Nat × Ent)) (g0 : γ) (h0 : G g0)
    (hle : St.le ⟨t, m, n⟩ ⟨upT (ts g0) t', upE (es g0) m, n⟩)
    (round : ∀ g, G g → vcx P Q 1000 (.code c :: .stop (fun s => ∃ g', G g' ∧ μ g' < μ g ∧ St.le s ⟨upT (ts g') t', upE (es g') m, n⟩) :: k) ⟨upT (ts g) t', upE (es g) m, n⟩) : LoopH P Q c k ⟨t, m, n⟩ t' :=
  loop_inv hm hk (fun g => ⟨upT (ts g) t', upE (es g) m, n⟩) G μ g0 h0 hle 1000 round
end

/-! ### a pure operation's value is one -/
section
variable {P : Program} {Q : St → Prop} {T : Nat → AV}
def asgV : AV → Operand → Value
  | .o (.v y), _ => y
  | _, .func f => .func (.func f) #[] #[]
  | _, _ => undef
theorem pureOp_one {op : Op} {z z' : Value} (h : pureOp P T op z) (h' : pureOp P T op z') : z = z' := by
  let a : Operand → Value := fun x => asgV (ev T x) x
  have ha : ∀ x ∈ op.operands, ∀ y, ev T x = .o (.v y) → a x = y := by
    intro x _ y hy
    show asgV (ev T x) x = y
    rw [hy]
    rfl
  have h1 := h ⟨none, op, 0, "", #[], none⟩ a default rfl ha (fun _ => rfl)
  have h2 := h' ⟨none, op, 0, "", #[], none⟩ a default rfl ha (fun _ => rfl)
  rw [h1] at h2
  simpa using h2
theorem ex_one {n dr all rest k st d} {op : Op} {z : Value} (h : pureOp P T op z) : ExVC P Q n dr all rest k st d (pureOp P T op) = vcx P Q n (.ops dr all rest :: k) (st.put d (val z)) := by
  refine propext ⟨?_, fun hv => ⟨z, h, hv⟩⟩
  rintro ⟨z', h', hv⟩
  rw [pureOp_one h h']
  exact hv

/-! ### build -/
def bldI (P : Program) (t : TypeId) : Option (List Value × List (Nat × Nat)) :=
  match P.info? t, P.underlying t with
  | some it, some (.array n e) =>
    match it.zero, P.info? e with
    | some z, some ie => some (z.cells.toList, (List.range n).map fun i => (i * ie.size, ie.size))
    | _, _ => none
  | some it, some (.struct fields) =>
    match it.zero, fields.toList.mapM (fun f => (P.info? f.type).map fun i => (f.offset, i.size)) with
    | some z, some places => some (z.cells.toList, places)
    | _, _ => none
  | _, _ => none
def putL (pl : List (Nat × Nat)) : List Value → List (Nat × Value) → Option (List Value)
  | zs, [] => some zs
  | zs, (i, v) :: r => match pl[i]? with
    | some (off, size) => if v.cells.toList.length = size ∧ off + size ≤ zs.length then putL pl (zs.take off ++ v.cells.toList ++ zs.drop (off + size)) r else none
    | none => none
theorem fold_put (off : Nat) : ∀ (vs : List Value) (k : Nat) (cs : Array Value), off + k + vs.length ≤ cs.size →
    ((vs.zipIdx k).foldl (fun cs (c, j) => cs.setIfInBounds (off + j) c) cs) = (cs.toList.take (off + k) ++ vs ++ cs.toList.drop (off + k + vs.length)).toArray
  | [], k, cs, _ => by simp
  | v :: vs, k, cs, h => by
    simp only [List.length_cons] at h
    rw [List.zipIdx_cons, List.foldl_cons, fold_put off vs (k + 1) _ (by simp; omega)]
    have e : (cs.setIfInBounds (off + k) v).toList = cs.toList.set (off + k) v := by simp
    rw [e]
    congr 1
    rw [show off + (k + 1) = off + k + 1 by omega]
    have h1 : (cs.toList.set (off + k) v).take (off + k + 1) = cs.toList.take (off + k) ++ [v] := by
      rw [List.set_eq_take_append_cons_drop, if_pos (by simp; omega), List.take_append]
      simp
      have hm : min (off + k) cs.size = off + k := by omega
      rw [hm, show off + k + 1 - (off + k) = 1 by omega, List.take_take, show min (off + k + 1) (off + k) = off + k by omega]
      simp
    have h2 : (cs.toList.set (off + k) v).drop (off + k + 1 + vs.length) = cs.toList.drop (off + k + (vs.length + 1)) := by
      rw [List.drop_set_of_lt (by omega)]
      congr 1; omega
    rw [h1, h2]
    simp
theorem fill_put {place : Nat → Option (Nat × Nat)} {pl : List (Nat × Nat)} (hp : ∀ i x, pl[i]? = some x → place i = some x) : ∀ {ps : List (Nat × Value)} {zs cs : List Value}, putL pl zs ps = some cs → Instr.fill place zs.toArray ps = some cs.toArray
  | [], zs, cs, h => by simp only [putL, Option.some.injEq] at h; subst h; rfl
  | (i, v) :: r, zs, cs, h => by
    simp only [putL] at h
    cases hi : pl[i]? with
    | none => simp [hi] at h
    | some x =>
      obtain ⟨off, size⟩ := x
      simp only [hi] at h
      split at h
      · rename_i hc
        have hpl := hp i _ hi
        have hs : v.cells.size = size := by simpa using hc.1
        have ih := fill_put hp h
        simp only [Instr.fill, hpl, hs, ne_eq, not_true_eq_false, false_or]
        rw [if_neg (by have := hc.2; simp; omega)]
        have hf := fold_put off v.cells.toList 0 zs.toArray (by have := hc.2; simp at this ⊢; omega)
        have hz : v.cells.zipIdx.foldl (fun cs x => cs.setIfInBounds (off + x.2) x.1) zs.toArray = (v.cells.toList.zipIdx 0).foldl (fun cs x => cs.setIfInBounds (off + x.2) x.1) zs.toArray := by
          rw [← Array.foldl_toList, Array.toList_zipIdx]
        have hsl : v.cells.toList.length = size := hc.1
        rw [hsl] at hf
        simp only [Nat.add_zero] at hf
        rw [hz]
        exact (congrArg (fun z => Instr.fill place z r) hf).trans ih
      · cases h
theorem built_put {t : TypeId} {zs : List Value} {pl : List (Nat × Nat)} {ps : List (Nat × Value)} {cs : List Value} (h : bldI P t = some (zs, pl)) (hc : putL pl zs ps = some cs) : P.built t ps = some cs.toArray := by
  unfold bldI at h
  unfold Program.built
  split at h
  · rename_i it n e hi hu
    split at h
    · rename_i z ie hz hie
      simp only [Option.some.injEq, Prod.mk.injEq] at h
      obtain ⟨rfl, rfl⟩ := h
      simp only [hi, hu, hz, hie]
      have := fill_put (place := fun i => some (i * ie.size, ie.size)) (by intro i x hx; simp only [List.getElem?_map, Option.map_eq_some_iff] at hx; obtain ⟨q, hq, rfl⟩ := hx; have := (List.getElem?_eq_some_iff.1 hq).2; simp at this; rw [this]) hc
      simpa using this
    · cases h
  · rename_i it fields hi hu
    split at h
    · rename_i z places hz hpl
      simp only [Option.some.injEq, Prod.mk.injEq] at h
      obtain ⟨rfl, rfl⟩ := h
      simp only [hi, hu, hz, hpl]
      have := fill_put (place := (places.toArray[·]?)) (by intro i x hx; simpa using hx) hc
      simpa using this
    · cases h
  · cases h
def bldV (P : Program) (T : Nat → AV) (t : TypeId) (parts : List (Nat × Operand)) : Option Value :=
  match bldI P t, plains T parts with
  | some (zs, pl), some ps => (putL pl zs ps).map fun cs => .agg cs.toArray
  | _, _ => none
def exGo (P : Program) (Q : St → Prop) (n : Nat) (dr : Bool) (all rest : List Oper) (k : List Frm) (st : St) (d : Option Nat) (S : Value → Prop) : Option Value → Prop
  | some z => vcx P Q n (.ops dr all rest :: k) (st.put d (val z))
  | none => ExVC P Q n dr all rest k st d S
theorem ex_some {n dr all rest k st d S z} : exGo P Q n dr all rest k st d S (some z) = vcx P Q n (.ops dr all rest :: k) (st.put d (val z)) := rfl
theorem x_build {n dr all rest k st d} {t : TypeId} {parts : List (Nat × Operand)} : ExVC P Q n dr all rest k st d (pureOp P T (.build t parts.toArray)) = exGo P Q n dr all rest k st d (pureOp P T (.build t parts.toArray)) (bldV P T t parts) := by
  cases h : bldV P T t parts with
  | none => rfl
  | some z =>
    unfold bldV at h
    split at h
    · rename_i zs pl ps h1 h2
      simp only [Option.map_eq_some_iff] at h
      obtain ⟨cs, hcs, rfl⟩ := h
      exact ex_one (bldG (by simpa using h2) (built_put h1 hcs))
    · cases h
@[congr] theorem exGo_congr {n dr all rest k d S} {st st' : St} {z z' : Option Value} (h : st = st') (h2 : z = z') : exGo P Q n dr all rest k st d S z = exGo P Q n dr all rest k st' d S z' := by rw [h, h2]
theorem putL_nil {pl zs} : putL pl zs [] = some zs := rfl
theorem putL_cons {pl zs i v r} : putL pl zs ((i, v) :: r) = match pl[i]? with
    | some (off, size) => if v.cells.toList.length = size ∧ off + size ≤ zs.length then putL pl (zs.take off ++ v.cells.toList ++ zs.drop (off + size)) r else none
    | none => none := rfl
end
/-! ### a slice's literal -/
def plF (size : Nat) : Nat → Nat → List (Nat × Nat)
  | _, 0 => []
  | k, n + 1 => (k * size, size) :: plF size (k + 1) n
def zsF (zero : List Value) : Nat → List Value
  | 0 => []
  | n + 1 => zero ++ zsF zero n
theorem plF_at {size : Nat} : ∀ {n k i : Nat} {x : Nat × Nat}, (plF size k n)[i]? = some x → x = ((k + i) * size, size)
  | 0, _, _, _, h => by simp [plF] at h
  | n + 1, k, 0, x, h => by simp [plF] at h; simp [← h]
  | n + 1, k, i + 1, x, h => by
    have := plF_at (n := n) (k := k + 1) (i := i) (by simpa [plF] using h)
    rw [this]; congr 2; omega
theorem zsF_len {zero : List Value} : ∀ n, (zsF zero n).length = n * zero.length
  | 0 => by simp [zsF]
  | n + 1 => by rw [zsF, List.length_append, zsF_len n, Nat.add_mul, Nat.one_mul, Nat.add_comm]
theorem zsF_at {zero : List Value} (hz : 0 < zero.length) : ∀ (n j : Nat), j < n * zero.length → (zsF zero n)[j]? = zero[j % zero.length]?
  | 0, j, h => by simp at h
  | n + 1, j, h => by
    rw [zsF]
    by_cases hj : j < zero.length
    · rw [List.getElem?_append_left hj, Nat.mod_eq_of_lt hj]
    · rw [List.getElem?_append_right (by omega), zsF_at hz n _ (by rw [Nat.add_mul, Nat.one_mul] at h; omega)]
      congr 1
      rw [← Nat.mod_eq_sub_mod (by omega)]
def bsGo (r : Option (List Value)) (fb : Option (Array Value)) : Option (Array Value) := match r with
  | some cs => some cs.toArray
  | none => fb
theorem bs_some {cs fb} : bsGo (some cs) fb = some cs.toArray := rfl
def bsL (len size : Nat) (zero : List Value) (parts : List (Nat × Value)) : Option (List Value) := if zero.length = size ∧ 0 < size then putL (plF size 0 len) (zsF zero len) parts else none
theorem bs_go {len size : Nat} {zero : List Value} {parts : List (Nat × Value)} : bsCells len size zero parts = bsGo (bsL len size zero parts) (hid bsCells len size zero parts) := by
  cases h : bsL len size zero parts with
  | none => unfold bsGo; rw [hid_eq]
  | some cs =>
    unfold bsL at h
    split at h
    · rename_i hc
      rw [bs_some]
      unfold bsCells
      have hr : ((Array.range (len * size)).map fun j => zero.toArray[j % zero.toArray.size]!) = (zsF zero len).toArray := by
        apply Array.ext'
        apply List.ext_getElem?
        intro j
        simp only [Array.toList_map, List.getElem?_map, Array.toList_range, List.size_toArray]
        by_cases hj : j < len * size
        · rw [List.getElem?_range hj, zsF_at (by omega) len j (by rw [hc.1]; exact hj)]
          have hm : j % zero.length < zero.length := Nat.mod_lt _ (by omega)
          simp only [Option.map_some]
          rw [getElem!_pos zero.toArray _ (by simpa using hm), List.getElem?_eq_getElem hm]
          simp
        · rw [List.getElem?_eq_none (by simp; omega), List.getElem?_eq_none (by rw [zsF_len, hc.1]; omega)]
          rfl
      rw [hr]
      exact fill_put (fun i x hx => by have := plF_at hx; rw [this, Nat.zero_add]) h
    · cases h
theorem plF_0 {size k} : plF size k 0 = [] := rfl
theorem plF_s {size k n} : plF size k (n + 1) = (k * size, size) :: plF size (k + 1) n := rfl
theorem zsF_0 {zero} : zsF zero 0 = [] := rfl
theorem zsF_s {zero n} : zsF zero (n + 1) = zero ++ zsF zero n := rfl
theorem iu {n : Nat} : Value.int .u64 (no_index (@OfNat.ofNat Int n (@instOfNat n))) = u64 (@OfNat.ofNat Nat n (instOfNatNat n)) := rfl
theorem toA {l : List Value} : l.toArray.toList = l := rfl
theorem cellsA {l : List Value} : (Value.agg l.toArray).cells.toList = l := rfl
abbrev iv (i : Nat) : AV := .o (.v (.int .i64 (i : Int)))
/-- More equations. -/
theorem SYX : type_of% (And.intro (And.intro (And.intro @x_build @ex_some) (And.intro @putL_nil (And.intro @putL_cons (And.intro (And.intro (And.intro @bs_go @bs_some) (And.intro (And.intro @plF_0 @plF_s) (And.intro @zsF_0 @zsF_s))) (And.intro (And.intro @iu (And.intro (And.intro @bsL.eq_1 @toA) (And.intro iv.eq_1 Int.toNat_natCast))) (And.intro @cellsA @List.append_nil.{0})))))) (And.intro (And.intro @bldV.eq_1 (And.intro (And.intro @ds_some @ds_none) (And.intro @ds_nil @ds_region))) (And.intro (And.intro (And.intro @ds_seq @ds_cond) (And.intro @ds_block @ds_loop)) (And.intro (And.intro (And.intro @ds_scope @ds_skip) (And.intro @ds_exit @ds_ret)) (And.intro (And.intro (And.intro @hav_nil @hav_cons) (And.intro @nt_0 (And.intro @nt_o @nt_t))) (And.intro (And.intro @up_nil @up_cons) (And.intro @ue_nil @ue_cons))))))) :=
  And.intro (And.intro (And.intro @x_build @ex_some) (And.intro @putL_nil (And.intro @putL_cons (And.intro (And.intro (And.intro @bs_go @bs_some) (And.intro (And.intro @plF_0 @plF_s) (And.intro @zsF_0 @zsF_s))) (And.intro (And.intro @iu (And.intro (And.intro @bsL.eq_1 @toA) (And.intro iv.eq_1 Int.toNat_natCast))) (And.intro @cellsA @List.append_nil.{0})))))) (And.intro (And.intro @bldV.eq_1 (And.intro (And.intro @ds_some @ds_none) (And.intro @ds_nil @ds_region))) (And.intro (And.intro (And.intro @ds_seq @ds_cond) (And.intro @ds_block @ds_loop)) (And.intro (And.intro (And.intro @ds_scope @ds_skip) (And.intro @ds_exit @ds_ret)) (And.intro (And.intro (And.intro @hav_nil @hav_cons) (And.intro @nt_0 (And.intro @nt_o @nt_t))) (And.intro (And.intro @up_nil @up_cons) (And.intro @ue_nil @ue_cons))))))

/-! ### lists laid out in cells -/
section
variable {α : Type} {f : α → List Value} {sz : Nat}
def LC (f : α → List Value) (l : List α) : List Value := l.flatMap f
theorem LC_nil : LC f [] = [] := rfl
theorem LC_cons (x : α) (l : List α) : LC f (x :: l) = f x ++ LC f l := by simp [LC]
theorem LC_one (x : α) : LC f [x] = f x := by simp [LC]
theorem LC_app (l l' : List α) : LC f l ++ LC f l' = LC f (l ++ l') := by simp [LC]
theorem LC_len (hf : ∀ x, (f x).length = sz) : ∀ l : List α, (LC f l).length = l.length * sz
  | [] => by simp [LC]
  | x :: l => by rw [LC_cons, List.length_append, hf, LC_len hf l, List.length_cons, Nat.add_mul, Nat.one_mul, Nat.add_comm]
theorem LC_drop (hf : ∀ x, (f x).length = sz) : ∀ (l : List α) (j : Nat), (LC f l).drop (j * sz) = LC f (l.drop j)
  | l, 0 => by simp
  | [], j + 1 => by simp [LC]
  | x :: l, j + 1 => by
    have h0 : (f x ++ LC f l).drop sz = LC f l := by have := List.drop_left (l₁ := f x) (l₂ := LC f l); rwa [hf] at this
    rw [LC_cons, List.drop_succ_cons, ← LC_drop hf l j, Nat.add_mul, Nat.one_mul, Nat.add_comm, ← List.drop_drop, h0]
theorem LC_take (hf : ∀ x, (f x).length = sz) : ∀ (l : List α) (j : Nat), (LC f l).take (j * sz) = LC f (l.take j)
  | l, 0 => by simp [LC]
  | [], j + 1 => by simp [LC]
  | x :: l, j + 1 => by
    rw [LC_cons, List.take_succ_cons, LC_cons, ← LC_take hf l j, Nat.add_mul, Nat.one_mul, Nat.add_comm, List.take_append, List.take_of_length_le (by rw [hf]; omega), hf]
    congr 2; omega
theorem LC_at (hf : ∀ x, (f x).length = sz) {l : List α} {j : Nat} {x : α} (h : l[j]? = some x) : ((LC f l).drop (j * sz)).take sz = f x := by
  have hl : l.drop j = x :: l.drop (j + 1) := by
    have hlt := (List.getElem?_eq_some_iff.1 h).1
    rw [List.drop_eq_getElem_cons hlt]
    congr 1
    exact (List.getElem?_eq_some_iff.1 h).2
  rw [LC_drop hf, hl, LC_cons, List.take_append_of_le_length (by rw [hf]; exact Nat.le_refl _), List.take_of_length_le (by rw [hf]; exact Nat.le_refl _)]
theorem LC_set (hf : ∀ x, (f x).length = sz) {l : List α} {j : Nat} (x : α) (h : j < l.length) : (LC f l).take (j * sz) ++ f x ++ (LC f l).drop (j * sz + sz) = LC f (l.set j x) := by
  have e : j * sz + sz = (j + 1) * sz := by rw [Nat.add_mul, Nat.one_mul]
  rw [e, LC_take hf, LC_drop hf, ← LC_one (f := f) x, LC_app, LC_app, List.set_eq_take_append_cons_drop]
  simp [h]
theorem LC_rep (hf : ∀ x, (f x).length = sz) (z : α) : ∀ n, LC f (List.replicate n z) = (List.replicate n (f z)).flatten
  | 0 => rfl
  | n + 1 => by rw [List.replicate_succ, LC_cons, LC_rep hf z n, List.replicate_succ, List.flatten_cons]
theorem made_LC (hf : ∀ x, (f x).length = sz) (hs : 0 < sz) (z : α) (n : Nat) : (madeCells (f z).toArray (n * sz)).toList = LC f (List.replicate n z) := by
  have hz := hf z
  apply List.ext_getElem?
  intro i
  by_cases h : i < n * sz
  · have hd : i / sz < n := Nat.div_lt_of_lt_mul (by rw [Nat.mul_comm]; exact h)
    have hm : i % sz < sz := Nat.mod_lt _ hs
    have hrep : (List.replicate n z)[i / sz]? = some z := by simp [hd]
    have hat := LC_at hf hrep
    have e : (LC f (List.replicate n z))[i]? = (f z)[i % sz]? := by
      rw [← hat, List.getElem?_take, if_pos hm, List.getElem?_drop]
      congr 1
      rw [Nat.mul_comm]; exact (Nat.div_add_mod i sz).symm
    rw [e]
    simp only [madeCells, Array.toList_map, List.getElem?_map, Array.toList_range]
    rw [List.getElem?_range h]
    simp only [Option.map_some, List.size_toArray, hz]
    rw [getElem!_pos (f z).toArray _ (by simpa [hz] using hm), List.getElem?_eq_getElem (by omega)]
    simp
  · rw [List.getElem?_eq_none (by simp [madeCells]; omega), List.getElem?_eq_none (by rw [LC_len hf]; simp; omega)]
theorem LC_all {p : Value → Bool} (hp : ∀ x, (f x).all p = true) : ∀ l : List α, (LC f l).all p = true
  | [] => rfl
  | x :: l => by rw [LC_cons, List.all_append, hp x, LC_all hp l]; rfl
theorem LC_inj (hf : ∀ x, (f x).length = sz) (hs : 0 < sz) (hi : ∀ x y, f x = f y → x = y) : ∀ {l l' : List α}, LC f l = LC f l' → l = l'
  | [], [], _ => rfl
  | [], y :: l', h => by have := congrArg List.length h; rw [LC_len hf, LC_len hf, List.length_cons, Nat.add_mul] at this; simp at this; omega
  | x :: l, [], h => by have := congrArg List.length h; rw [LC_len hf, LC_len hf, List.length_cons, Nat.add_mul] at this; simp at this; omega
  | x :: l, y :: l', h => by
    rw [LC_cons, LC_cons] at h
    obtain ⟨h1, h2⟩ := List.append_inj h (by rw [hf, hf])
    rw [hi x y h1, LC_inj hf hs hi h2]
end
end Go.Sx
