/-
  A slice that is only read may be handed as an exact value of which it is known what it shows. No conditions.
-/
import Derived.Test.YtgeliidjmefkgaaZFad
namespace Go.Sx
section
variable {P : Program}
/-- An argument told as a value with a fact, in place of a slice. -/
inductive Slf : Arg → Arg → Prop
  | same (a : Arg) : Slf a a
  | slice (y : Value) (n size : Nat) (xs : List Value) : Slf (.sl n size xs) (.fa y fun w => ReadsSlice w y n size xs)
inductive Slfs : List Arg → List Arg → Prop
  | nil : Slfs [] []
  | cons {a b : Arg} {as bs : List Arg} (h : Slf a b) (t : Slfs as bs) : Slfs (a :: as) (b :: bs)
theorem nomv_blk : ∀ {as : List Arg}, noMv as → ∀ a ∈ as, ∀ y, movedBlk a y = none
  | [], _, a, ha, _ => by cases ha
  | b :: as, h, a, ha, y => by
    have hl : noMv as := by cases b <;> first | exact h | exact h.elim
    rcases List.mem_cons.1 ha with rfl | ha
    · cases a <;> first | rfl | exact h.elim
    · exact nomv_blk hl a ha y
theorem nomv_moved : ∀ {as : List Arg} {ys : List Value} {b : Nat}, noMv as → ¬ moved as ys b
  | [], _, _, _, h => by cases h
  | _ :: _, [], _, _, h => by cases h
  | a :: as, y :: ys, b, hn, h => by
    have hl : noMv as := by cases a <;> first | exact hn | exact hn.elim
    rcases h with h | h
    · rw [nomv_blk hn a (by simp) y] at h; cases h
    · exact nomv_moved hl h
theorem nomv_apart : ∀ {as : List Arg} {ys : List Value}, noMv as → apartArgs as ys
  | [], _, _ => trivial
  | _ :: _, [], _ => by simp [apartArgs]
  | a :: as, y :: ys, hn => by
    have hl : noMv as := by cases a <;> first | exact hn | exact hn.elim
    refine ⟨fun b hb => ?_, fun b _ a' y' hin => ?_, nomv_apart hl⟩
    · rw [nomv_blk hn a (by simp) y] at hb; cases hb
    · rw [nomv_blk hn a' (by simp [(List.of_mem_zip hin).1])]; simp
theorem Slfs.nomv : ∀ {as bs : List Arg}, Slfs as bs → noMv as → noMv bs
  | _, _, .nil, _ => trivial
  | _, _, .cons (.same a) t, h => by cases a <;> first | exact t.nomv h | exact h.elim
  | _, _, .cons (.slice ..) t, h => t.nomv h
theorem Slfs.args {w : World} : ∀ {as bs : List Arg} {ys : List Value}, Slfs as bs → ArgsOK w bs ys → ArgsOK w as ys
  | _, _, [], .nil, _ => trivial
  | _, _, _ :: _, .nil, h => h.elim
  | _, _, [], .cons _ _, h => h.elim
  | _, _, _ :: _, .cons (.same _) t, h => ⟨h.1, t.args h.2⟩
  | _, _, _ :: _, .cons (.slice y n size xs) t, h => ⟨by obtain ⟨⟨rfl, h1⟩, _⟩ := h; exact h1, t.args h.2⟩
theorem Slfs.fact : ∀ {as bs : List Arg} {i : Nat} {x : Value} {F : World → Prop}, Slfs as bs → as[i]? = some (.fa x F) → bs[i]? = some (.fa x F)
  | _, _, _, _, _, .nil, h => by simp at h
  | _, _, 0, _, _, .cons (.same _) _, h => by simpa using h
  | _, _, 0, _, _, .cons (.slice ..) _, h => by simp at h
  | _, _, i + 1, _, _, .cons _ t, h => by simpa using t.fact (i := i) (by simpa using h)
theorem Slfs.io : ∀ {as bs : List Arg} {i : Nat} {b : Arg}, Slfs as bs → noMv as → bs[i]? = some b → isIo b = false ∧ ∀ w y, ioOK w b y := by
  intro as bs i b h hn hb
  have hm := h.nomv hn
  have : ∀ {l : List Arg}, noMv l → b ∈ l → isIo b = false ∧ ∀ w y, ioOK w b y := by
    intro l
    induction l with
    | nil => intro _ h; cases h
    | cons a l ih =>
      intro h0 h1
      have hl : noMv l := by cases a <;> first | exact h0 | exact h0.elim
      rcases List.mem_cons.1 h1 with rfl | h1
      · cases b <;> first | exact ⟨rfl, fun _ _ => trivial⟩ | exact h0.elim
      · exact ih hl h1
  exact this hm (List.mem_of_getElem? hb)
/-- The contract with facts. -/
theorem Slfs.vals : ∀ {xs : List Value} {bs : List Arg}, Slfs (xs.map Arg.val) bs → bs = xs.map Arg.val
  | [], _, .nil => rfl
  | _ :: _, _, .cons (.same _) t => by rw [t.vals]; rfl
theorem Contract.fas {f : Nat} {as bs : List Arg} {rs : List Res} (h : Contract P f as rs) (hs : Slfs as bs) (hn : noMv as) : Contract P f bs rs := by
  rcases h with h | h
  rotate_left
  · obtain ⟨xs, zs, rfl, h2⟩ := h
    rw [hs.vals]
    exact .inr ⟨xs, zs, rfl, h2⟩
  refine .inl ⟨h.1, fun w ys C ha _ hf => ?_⟩
  have hm := hs.nomv hn
  have e1 : ∀ b, moved as ys b ↔ moved bs ys b := fun b => ⟨fun x => (nomv_moved hn x).elim, fun x => (nomv_moved hm x).elim⟩
  have e2 : moved as ys = moved bs ys := funext fun b => propext (e1 b)
  refine (h.2 w ys C (hs.args ha) (nomv_apart hn) (fun i x F hi => by rw [e2]; exact hf i x F (hs.fact hi))).mono ?_
  rintro e w' ⟨zs, he, hfr, hr, _, bsx, q1, q2, q3, q4⟩
  rw [e2] at hfr hr q1 q4
  refine ⟨zs, he, hfr, hr, fun i a y hi _ => ?_, bsx, q1, q2, fun j a y b hj _ hio => ?_, q4⟩
  · obtain ⟨h1, h2⟩ := hs.io hn hi
    exact ⟨h2 _ _, fun h3 => by rw [h1] at h3; cases h3⟩
  · obtain ⟨h1, _⟩ := hs.io hn hj
    rw [h1] at hio; cases hio
end
theorem mv_fa {x : AV} {v : Value} {F : World → Prop} {l : List AV} {az : List Arg} : movedE (x :: l) (.fa v F :: az) = movedE l az := by cases x with | o a => cases a <;> rfl | t l => rfl
end Go.Sx
