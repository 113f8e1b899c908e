/-
  Conversions, negations and indices in the machine, for words. No conditions.
-/
import Derived.Test.YtmgheellmllfpaaSxq
import Derived.Laws.Strings
namespace Go.Sx
section
variable {P : Program} {Q : St → Prop} {T : Nat → AV} {M : MemF} {id : Nat}
def cvk (k : Option IntKind) (n : Int) (fb : Eff) : Eff := match k with
  | some k => .ok True (val (.int k (k.wrap n)))
  | none => fb
def cvs (s : Option TypeDesc) (k : Option IntKind) (n : Int) (fb : Eff) : Eff := match s with
  | some _ => cvk k n fb
  | none => fb
def convEff (P : Program) (T : Nat → AV) (src dst : TypeId) (x : Operand) : AV → Eff
  | .o (.v (.int _ n)) => cvs (P.underlying src) (intT P dst) n (.ex (pureOp P T (.convert src dst x)))
  | _ => .ex (pureOp P T (.convert src dst x))
theorem op_conv {src dst : TypeId} {x : Operand} : opEff P T M id (.convert src dst x) = convEff P T src dst x (ev T x) := by
  simp only [opEff]
  generalize ev T x = v
  unfold convEff cvs cvk
  cases v with
  | t l => rfl
  | o a =>
    cases a with
    | v y => cases y <;> first | rfl | (cases P.underlying src <;> cases intT P dst <;> rfl)
    | _ => rfl
theorem cv_i {src dst : TypeId} {x : Operand} {k : IntKind} {n : Int} : convEff P T src dst x (.o (.v (.int k n))) = cvs (P.underlying src) (intT P dst) n (.ex (pureOp P T (.convert src dst x))) := rfl
theorem cv_u {src dst : TypeId} {x : Operand} {n : Nat} : convEff P T src dst x (.o (.v (u64 n))) = cvs (P.underlying src) (intT P dst) n (.ex (pureOp P T (.convert src dst x))) := rfl
theorem cvs_some {t : TypeDesc} {k : Option IntKind} {n : Int} {fb : Eff} : cvs (some t) k n fb = cvk k n fb := rfl
theorem cvk_u {n : Int} {fb : Eff} : cvk (some .u64) n fb = .ok True (val (u64 (n % 18446744073709551616).toNat)) := by
  show Eff.ok _ _ = _
  refine congrArg _ ?_
  unfold u64
  rw [wrap_u64]
  congr 2
  omega
theorem cvk_8 {n : Int} {fb : Eff} : cvk (some .u8) n fb = .ok True (val (.int .u8 (n % 256))) := by
  show Eff.ok _ _ = _
  simp [IntKind.wrap, IntKind.bits, IntKind.signed]
theorem cvk_i {n : Int} {fb : Eff} : cvk (some .i64) n fb = .ok True (val (.int .i64 ((n + 9223372036854775808) % 18446744073709551616 - 9223372036854775808))) := by
  show Eff.ok _ _ = _
  rw [IntKind.wrap_i64]
def unEff (u : UnOp) : AV → Eff
  | .o (.v (.bool b)) => match u with | .not => .ok True (val (.bool (!b))) | _ => .fail
  | .o (.v (.int k n)) => match u with | .neg => .ok True (val (.int k (k.wrap (0 - n)))) | _ => .fail
  | _ => .fail
theorem op_unop {u : UnOp} {ty : TypeId} {x : Operand} : opEff P T M id (.unOp u ty x) = unEff u (ev T x) := by
  simp only [opEff]
  generalize ev T x = v
  unfold unEff
  cases v with
  | t l => cases u <;> rfl
  | o a =>
    cases a with
    | v y => cases y <;> cases u <;> rfl
    | _ => cases u <;> rfl
theorem un_not {b : Bool} : unEff .not (.o (.v (.bool b))) = .ok True (val (.bool (!b))) := rfl
theorem un_negi {k : IntKind} {n : Int} : unEff .neg (.o (.v (.int k n))) = .ok True (val (.int k (k.wrap (0 - n)))) := rfl
theorem un_negu {n : Nat} : unEff .neg (.o (.v (u64 n))) = .ok True (val (u64 (usub 0 n))) := by
  show Eff.ok _ _ = _
  refine congrArg _ ?_
  simp only [wrap_u64]
  rw [usub_eq]
  unfold u64
  congr 2
  omega
theorem indexString {t : TypeId} {x i : Operand} {s : ByteArray} {k : IntKind} {j : Int} {b : UInt8} (ht : P.underlying t = some .string) (hx : ev T x = .o (.v (.string s))) (hi : ev T i = .o (.v (.int k j)))
    (h0 : 0 ≤ j) (hb : s[j.toNat]? = some b) : pureOp P T (.index t x i) (.int .u8 b.toNat) := by
  intro o f w ho hf _
  have e1 := hf x (by simp [Op.operands]) _ hx
  have e2 := hf i (by simp [Op.operands]) _ hi
  simp [execOp, ho, e1, e2, Instr.index, run_underlying ht, h0, hb, asIntOf]
end
end Go.Sx
