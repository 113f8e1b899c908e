/-
  Through of poly. No conditions.
-/
import Derived.Test.YtmjhaopkhceegaaZPpd
namespace Go.Sx
open Go.Proofs Go.Num
-- SY
-- TY: TYX, UX
set_option maxRecDepth 100000
set_option linter.unusedSimpArgs false
set_option pp.deepTerms true
set_option pp.maxSteps 100000
/-- A loop that has more memory in the later rounds. -/
theorem loop_go2 {P : Program} {Q : St → Prop} {c : Code} {k : List Frm} {t t' : List AV} {m : Mem} {n : Nat} {γ : Type} (hm : P.follows .mixedOrders = true) (hk : noOps k) (G : γ → Prop) (μ : γ → Nat) (ts : γ → List (Nat × AV)) (es : γ → List (Nat × Ent)) (xs : γ → Mem) (nn : γ → Nat) (g0 : γ) (h0 : G g0)
    (hle : St.le ⟨t, m, n⟩ ⟨upT (ts g0) t', xs g0 ++ upE (es g0) m, nn g0⟩)
    (round : ∀ g, G g → vcx P Q 1000 (.code c :: .stop (fun s => ∃ g', G g' ∧ μ g' < μ g ∧ St.le s ⟨upT (ts g') t', xs g' ++ upE (es g') m, nn g'⟩) :: k) ⟨upT (ts g) t', xs g ++ upE (es g) m, nn g⟩) : LoopH P Q c k ⟨t, m, n⟩ t' :=
  loop_inv hm hk (fun g => ⟨upT (ts g) t', xs g ++ upE (es g) m, nn g⟩) G μ g0 h0 hle 1000 round
end Go.Sx
