/-
  The machine's operations: what each leaves (opEff), and that the program's operation does just that (op_sound). No conditions.
-/
import Derived.Test.YtmgheellmllfpaaSxa
namespace Go.Sx

def ev (T : Nat → AV) : Operand → AV
  | .tmp i => T i
  | .const x => .o (.v x)
  | _ => .o .any

def tsz (P : Program) (t : TypeId) : Option Nat := (P.info? t).map (·.size)
def aggD : TypeDesc → Bool
  | .struct _ => true
  | .array _ _ => true
  | _ => false
def aggT (P : Program) (t : TypeId) : Option Bool := (P.underlying t).map aggD
def zcells (P : Program) (t : TypeId) : Option (List Value) := (P.info? t).bind fun i => i.zero.map fun z => z.cells.toList
def arrD (P : Program) : TypeDesc → Option (Nat × Nat)
  | .array n e => (tsz P e).map fun s => (n, s)
  | _ => none
def arrI (P : Program) (t : TypeId) : Option (Nat × Nat) := (P.underlying t).bind (arrD P)
def slD (P : Program) : TypeDesc → Option Nat
  | .slice e => tsz P e
  | _ => none
def slI (P : Program) (t : TypeId) : Option Nat := (P.underlying t).bind (slD P)
def fldD (P : Program) (f : Nat) : TypeDesc → Option (Nat × Nat)
  | .struct fs => (fs[f]?).bind fun x => (tsz P x.type).map fun s => (x.offset, s)
  | _ => none
def fldI (P : Program) (t : TypeId) (f : Nat) : Option (Nat × Nat) := (P.underlying t).bind (fldD P f)
structure Mk where
  e : Nat
  size : Nat
  bytes : Nat
  zero : List Value
def mkD (P : Program) : TypeDesc → Option Mk
  | .slice e => (P.info? e).bind fun i => i.zero.map fun z => ⟨e, i.size, i.bytes, z.cells.toList⟩
  | _ => none
def mkI (P : Program) (t : TypeId) : Option Mk := (P.underlying t).bind (mkD P)
def intD : TypeDesc → Option IntKind
  | .int k => some k
  | _ => none
def intT (P : Program) (t : TypeId) : Option IntKind := (P.underlying t).bind intD

def bsCells (len size : Nat) (zero : List Value) (parts : List (Nat × Value)) : Option (Array Value) :=
  Instr.fill (fun i => some (i * size, size)) ((Array.range (len * size)).map fun j => zero.toArray[j % zero.toArray.size]!) parts

def plain : AV → Option Value
  | .o (.v x) => some x
  | _ => none
def plains (T : Nat → AV) : List (Nat × Operand) → Option (List (Nat × Value))
  | [] => some []
  | (i, x) :: l => match plain (ev T x), plains T l with
    | some y, some ys => some ((i, y) :: ys)
    | _, _ => none

/-- The cells that a slice or row argument shows. -/
def sliceCells (M : MemF) (size : Nat) : AV → Option (Nat × List Value)
  | .o (.s k off len) => match M k with
    | some e => match e.cells with
      | some cs => some (len, (cs.drop off).take (len * size))
      | none => none
    | none => none
  | .o (.r k _) => match M k with
    | some (.row _ sz n xs) => if sz = size then some (n, xs) else none
    | _ => none
  | .o (.v (.slice none 0 0)) => some (0, [])
  | _ => none

inductive Eff where
  | fail
  | ok (c : Prop) (u : Upd)
  | ex (S : Value → Prop)
  | call (f : Nat) (args : List AV)

def pureOp (P : Program) (T : Nat → AV) (op : Op) (z : Value) : Prop :=
  ∀ (o : Oper) (a : Operand → Value) (w : World), o.op = op → (∀ x ∈ op.operands, ∀ y, ev T x = .o (.v y) → a x = y) → (∀ f, a (.func f) = .func (.func f) #[] #[]) → (execOp a o).run P w = .ok (.value z) w

def val (x : Value) : Upd := ⟨.o (.v x), [], []⟩
def cmpI (op : BinOp) (a b : Int) : Option Bool :=
  match op with
  | .eql => some (a == b)
  | .neq => some (a != b)
  | .lss => some (decide (a < b))
  | .leq => some (decide (a ≤ b))
  | .gtr => some (decide (b < a))
  | .geq => some (decide (b ≤ a))
  | _ => none
def arI (op : BinOp) (k : IntKind) (a b : Int) : Option Int :=
  match op with
  | .add => some (k.wrap (a + b))
  | .sub => some (k.wrap (a - b))
  | .mul => some (k.wrap (a * b))
  | .and => some (bits .and k a b)
  | .or => some (bits .or k a b)
  | .xor => some (bits .xor k a b)
  | _ => none

def binEff (op : BinOp) (k : IntKind) (a : Int) (k' : IntKind) (b : Int) (fb : Eff) : Eff :=
  match op with
  | .shl => .ok (0 ≤ b) (val (.int k (k.wrap (a * 2 ^ (min b.toNat k.bits)))))
  | .shr => .ok (0 ≤ b) (val (.int k (a.fdiv (2 ^ (min b.toNat k.bits)))))
  | .quo => .ok (k = k' ∧ b ≠ 0) (val (.int k (k.wrap (a.tdiv b))))
  | .rem => .ok (k = k' ∧ b ≠ 0) (val (.int k (a.tmod b)))
  | _ => match cmpI op a b with
    | some c => .ok (k = k') (val (.bool c))
    | none => match arI op k a b with
      | some c => .ok (k = k') (val (.int k c))
      | none => fb

def loadEff (P : Program) (M : MemF) (ty : TypeId) (k off : Nat) : Eff :=
  match M k, tsz P ty, aggT P ty with
  | some e, some sz, some g => match e.cells with
    | some cs => match g with
      | true => .ok (off + sz ≤ cs.length ∧ 0 < sz) (val (.agg ((cs.drop off).take sz).toArray))
      | false => .ok (off < cs.length) (val (cs.getD off undef))
    | none => .fail
  | _, _, _ => .fail

def storeEff (P : Program) (M : MemF) (ty : TypeId) (k off : Nat) (z : Value) : Eff :=
  match M k, tsz P ty with
  | some (.box cs), some sz => .ok (off + sz ≤ cs.length ∧ z.cells.toList.length = sz ∧ z.cells.toList.all Value.oneCell' = true)
      ⟨.o .any, [], [(k, .box (cs.take off ++ z.cells.toList ++ cs.drop (off + sz)))]⟩
  | some (.row e s n cs), some sz => .ok (off + sz ≤ cs.length ∧ z.cells.toList.length = sz ∧ z.cells.toList.all Value.oneCell' = true)
      ⟨.o .any, [], [(k, .row e s n (cs.take off ++ z.cells.toList ++ cs.drop (off + sz)))]⟩
  | _, _ => .fail

def sliceEff (k off : Nat) (sz len : Nat) (lo hi mx : Option AV) : Eff :=
  match lo, hi, mx with
  | none, none, none => .ok True ⟨.o (.s k off len), [], []⟩
  | none, some (.o (.v (.int _ h))), none => .ok (0 ≤ h ∧ h ≤ len) ⟨.o (.s k off h.toNat), [], []⟩
  | some (.o (.v (.int _ l))), none, none => .ok (0 ≤ l ∧ l ≤ len) ⟨.o (.s k (off + l.toNat * sz) (len - l.toNat)), [], []⟩
  | some (.o (.v (.int _ l))), some (.o (.v (.int _ h))), none => .ok (0 ≤ l ∧ l ≤ h ∧ h ≤ len) ⟨.o (.s k (off + l.toNat * sz) (h.toNat - l.toNat)), [], []⟩
  | none, some (.o (.v (.int _ h))), some (.o (.v (.int _ m))) => .ok (0 ≤ h ∧ h ≤ m ∧ m ≤ len) ⟨.o (.s k off h.toNat), [], []⟩
  | _, _, _ => .fail

def binOn (P : Program) (T : Nat → AV) (bop : BinOp) (ty : TypeId) (x y : Operand) (ty' : TypeId) : AV → AV → Eff
  | .o (.v (.int k a)), .o (.v (.int k' b)) => binEff bop k a k' b (.ex (pureOp P T (.binOp bop ty x y ty')))
  | _, _ => .ex (pureOp P T (.binOp bop ty x y ty'))

def opEff (P : Program) (T : Nat → AV) (M : MemF) (id : Nat) (op : Op) : Eff :=
  match op with
  | .move x => .ok True ⟨ev T x, [], []⟩
  | .assign x => .ok True ⟨ev T x, [], []⟩
  | .pick c a b => match ev T c with
    | .o (.v (.bool true)) => .ok True ⟨ev T a, [], []⟩
    | .o (.v (.bool false)) => .ok True ⟨ev T b, [], []⟩
    | _ => .fail
  | .alloc e => match zcells P e with
    | some zs => .ok (zs.all Value.oneCell' = true) ⟨.o (.p id 0), [(id, .box zs)], []⟩
    | none => .fail
  | .box _ x => match ev T x with
    | .o (.v y) => .ok (y.cells.toList.all Value.oneCell' = true) ⟨.o (.p id 0), [(id, .box y.cells.toList)], []⟩
    | _ => .fail
  | .buildSlice t len parts => match mkI P t, plains T parts.toList with
    | some m, some ps => match bsCells len m.size m.zero ps with
      | some cs => .ok (cs.toList.length = len * m.size ∧ cs.toList.all Value.oneCell' = true ∧ len * m.size ≤ 16777216 ∧ len ≤ 16777216 ∧ m.zero.length = m.size) ⟨.o (.r id len), [(id, .row m.e m.size len cs.toList)], []⟩
      | none => .fail
    | _, _ => .fail
  | .makeSlice t l c => match mkI P t, ev T l, ev T c with
    | some m, .o (.v (.int _ n)), .o (.v (.int _ n')) => .ok (n = n' ∧ 0 ≤ n ∧ m.bytes * n.toNat ≤ 281474976710656 ∧ n ≤ 9223372036854775807 ∧ m.zero.length = m.size ∧ m.zero.all Value.oneCell' = true)
        ⟨.o (.r id n.toNat), [(id, .row m.e m.size n.toNat (madeCells m.zero.toArray (n.toNat * m.size)).toList)], []⟩
    | _, _, _ => .fail
  | .load ty x => match ev T x with
    | .o (.p k off) => loadEff P M ty k off
    | _ => .fail
  | .store ty x y => match ev T x, ev T y with
    | .o (.p k off), .o (.v z) => storeEff P M ty k off z
    | _, _ => .fail
  | .indexAddr ty x i => match ev T x, ev T i with
    | .o (.p k off), .o (.v (.int _ j)) => match arrI P ty with
      | some (n, s) => .ok (0 ≤ j ∧ j < n) ⟨.o (.p k (off + j.toNat * s)), [], []⟩
      | none => .fail
    | .o (.s k off len), .o (.v (.int _ j)) => match slI P ty with
      | some s => .ok (0 ≤ j ∧ j < len) ⟨.o (.p k (off + j.toNat * s)), [], []⟩
      | none => .fail
    | .o (.r k n), .o (.v (.int _ j)) => match slI P ty with
      | some s => .ok (0 ≤ j ∧ j < n) ⟨.o (.p k (j.toNat * s)), [], []⟩
      | none => .fail
    | _, _ => .fail
  | .fieldAddr ty x f => match ev T x, fldI P ty f with
    | .o (.p k off), some (d, s) => .ok (s ≠ 0) ⟨.o (.p k (off + d)), [], []⟩
    | _, _ => .fail
  | .slice ty x lo hi mx => match ev T x with
    | .o (.p k off) => match arrI P ty with
      | some (n, s) => sliceEff k off s n (lo.map (ev T)) (hi.map (ev T)) (mx.map (ev T))
      | none => .fail
    | .o (.s k off len) => match slI P ty with
      | some s => sliceEff k off s len (lo.map (ev T)) (hi.map (ev T)) (mx.map (ev T))
      | none => .fail
    | .o (.r k n) => match slI P ty with
      | some s => sliceEff k 0 s n (lo.map (ev T)) (hi.map (ev T)) (mx.map (ev T))
      | none => .fail
    | _ => .fail
  | .sliceToArrayPointer ty x => match ev T x, arrI P ty with
    | .o (.s k off len), some (n, _) => .ok (n ≤ len ∧ 0 < len) ⟨.o (.p k off), [], []⟩
    | _, _ => .fail
  | .extract x i => match ev T x with
    | .t l => .ok (i < l.length) ⟨.o (l.getD i .any), [], []⟩
    | _ => .fail
  | .binOp bop ty x y ty' => binOn P T bop ty x y ty' (ev T x) (ev T y)
  | .unOp uop _ x => match uop, ev T x with
    | .not, .o (.v (.bool b)) => .ok True (val (.bool (!b)))
    | .neg, .o (.v (.int k n)) => .ok True (val (.int k (k.wrap (0 - n))))
    | _, _ => .fail
  | .convert src dst x => match ev T x, P.underlying src, intT P dst with
    | .o (.v (.int _ n)), some _, some k => .ok True (val (.int k (k.wrap n)))
    | _, _, _ => .ex (pureOp P T (.convert src dst x))
  | .call c => match c.callee with
    | .value (.func f) => .call f (c.args.toList.map (ev T))
    | .builtin .len => match c.args.toList, c.argTypes.toList with
      | [x], [ty] => match ev T x, slI P ty with
        | .o (.s _ _ len), some _ => .ok True (val (.int .i64 len))
        | .o (.r _ n), some _ => .ok True (val (.int .i64 n))
        | _, _ => .ex (pureOp P T (.call c))
      | _, _ => .fail
    | .builtin .append => match c.args.toList, c.argTypes.toList with
      | [x, y], [ty, ty'] => match mkI P ty with
        | some m => match sliceCells M m.size (ev T y) with
          | some (q, news) => match ev T x with
            | .o (.r k _) => match M k with
              | some (.row e sz n xs) => .ok (ty = ty' ∧ e = m.e ∧ sz = m.size ∧ 0 < sz ∧ m.zero.length = sz ∧ news.length = q * sz ∧ (n + q) * m.bytes ≤ 140737488355328 ∧ n + q ≤ 9223372036854775807)
                  ⟨.o (.r id (n + q)), [(id, .row e sz (n + q) (xs ++ news))], [(k, .dead)]⟩
              | _ => .fail
            | .o (.v (.slice none 0 0)) => .ok (ty = ty' ∧ 0 < m.size ∧ m.zero.length = m.size ∧ news.length = q * m.size ∧ q * m.bytes ≤ 140737488355328 ∧ q ≤ 9223372036854775807)
                  ⟨.o (.r id q), [(id, .row m.e m.size q news)], []⟩
            | _ => .fail
          | none => .fail
        | none => .fail
      | _, _ => .fail
    | _ => .ex (pureOp P T (.call c))
  | .build t parts => .ex (pureOp P T (.build t parts))
  | .index t x i => .ex (pureOp P T (.index t x i))
  | .field t x f => .ex (pureOp P T (.field t x f))
  | _ => .fail

def argMatch (M : MemF) : AV → Arg → Prop
  | .o (.v x), .val y => x = y
  | x, .sl n size xs => sliceCells M size x = some (n, xs) ∧ xs.length = n * size
  | .o (.r k _), .mv e size n xs => M k = some (.row e size n xs)
  | _, _ => False
def argsMatch (M : MemF) : List AV → List Arg → Prop
  | [], [] => True
  | x :: l, a :: as => argMatch M x a ∧ argsMatch M l as
  | _, _ => False
def resA (id : Nat) : Res → A0
  | .val x => .v x
  | .row _ _ n _ => .r id n
  | .view n _ _ => .s id 0 n
def resE (id : Nat) : Res → Mem
  | .val _ => []
  | .row e size n xs => [(id, .row e size n xs)]
  | .view _ _ xs => [(id, .view true xs)]
def ressA : Nat → List Res → List A0
  | _, [] => []
  | id, r :: rs => resA id r :: ressA (id + 1) rs
def ressE : Nat → List Res → Mem
  | _, [] => []
  | id, r :: rs => resE id r ++ ressE (id + 1) rs
def packA : List A0 → AV
  | [a] => .o a
  | l => .t l
def movedE : List AV → List Arg → Mem
  | .o (.r k _) :: l, .mv .. :: as => (k, .dead) :: movedE l as
  | _ :: l, _ :: as => movedE l as
  | _, _ => []

def refs : List AV → List Nat
  | [] => []
  | .o (.s k _ _) :: l => k :: refs l
  | .o (.r k _) :: l => k :: refs l
  | _ :: l => refs l
def apartIds (args : List AV) (as : List Arg) : Prop := movedE args as = [] ∨ (refs args).Nodup

def callOK (P : Program) (M : MemF) (id : Nat) (f : Nat) (args : List AV) (u : Upd) : Prop :=
  ∃ as rs, Contract P f as rs ∧ argsMatch M args as ∧ rs.length ≤ 4 ∧ apartIds args as ∧ u = ⟨packA (ressA id rs), ressE id rs, movedE args as⟩

def OpOK (P : Program) (T : Nat → AV) (M : MemF) (id : Nat) (op : Op) (u : Upd) : Prop :=
  match opEff P T M id op with
  | .fail => False
  | .ok c u' => c ∧ u = u'
  | .ex S => ∃ z, S z ∧ u = val z
  | .call f args => callOK P M id f args u
end Go.Sx
