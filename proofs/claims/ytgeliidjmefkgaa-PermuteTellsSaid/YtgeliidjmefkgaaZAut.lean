/-
  A state told with less, the entries' new numbers read off the slots. No conditions.
-/
import Derived.Test.YtgeliidjmefkgaaZMachC
namespace Go.Sx
/-- The entry that a slot names. -/
def idA : AV → Nat
  | .o (.p k _) => k
  | .o (.s k _ _) => k
  | .o (.r k _) => k
  | _ => 0
def idO : Option AV → Nat
  | some a => idA a
  | none => 0
def idAt (l : List AV) (i : Nat) : Nat := idO l[i]?
theorem St.le_at {s s' : St} (L : List (Nat × Nat)) (ht : Tle (ren (L.map fun p => (p.1, idAt s.t p.2))) s'.m.get s.t s'.t) (hm : Mle (ren (L.map fun p => (p.1, idAt s.t p.2))) s.m.get s'.m.get s'.m) (hnd : ((s'.m.map Prod.fst).map (ren (L.map fun p => (p.1, idAt s.t p.2)))).Nodup) (hn : ∀ k ∈ s'.m.map Prod.fst, k < s'.n) : St.le s s' := St.le_of _ ht hm hnd hn
end Go.Sx
