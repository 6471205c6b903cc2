/- The operations, as the layer writes them; what a quiet one comes to, and that it does. -/
import Derived.Test.YtkjecjgfkogkoaaVd
namespace Go.V
set_option linter.unusedSimpArgs false
set_option linter.unnecessarySimpa false
set_option linter.unusedVariables false

inductive Opd where
  | t (n : Nat)
  | c (x : SV)
  | f (n : Nat)

/-- Of what kind is what may be nil? -/
inductive NK where
  | p | s | m | f | i
  deriving DecidableEq

inductive AOp where
  | mv (x : Opd)
  | pick (c a b : Opd)
  | nck (x : Opd)
  | fld (off : Nat) (n : Option Nat) (x : Opd)
  | fa (off : Nat) (x : Opd)
  | ia (sz : Nat) (x i : Opd)
  | iaA (len sz : Nat) (x i : Opd)
  | ixS (x i : Opd)
  | ld (x : Opd)
  | ldA (n : Nat) (x : Opd)
  | bin (op : BinOp) (x y : Opd)
  | binB (neg : Bool) (x y : Opd)
  | eqn (neg : Bool) (k : NK) (x y : Opd)
  | not (x : Opd)
  | neg (x : Opd)
  | cv (k : IntKind) (x : Opd)
  | cvS (x : Opd)
  | b2s (x : Opd)
  | ext (x : Opd) (i : Nat)
  | len (k : NK) (x : Opd)
  | mm (mx : Bool) (x y : Opd)
  | lk (va : Bool) (kt vt : Ty) (ok : Bool) (x k : Opd)
  | bld (zs : List SV) (parts : List (Nat × Nat × Opd))
  | mkf (f : Nat) (caps : List Opd)
  | slS (x : Opd) (lo hi : Option Opd)
  | slR (sz : Nat) (x : Opd) (lo hi : Option Opd)
  -- these do something, or part the ways
  | isn (neg : Bool) (x : Opd)
  | alc (zs : List SV)
  | box (x : Opd)
  | bsl (eb : Nat) (t : Ty) (n : Nat) (parts : List (Nat × Opd))
  | st (n : Nat) (x v : Opd)
  | app (eb : Nat) (t : Ty) (x y : Opd)
  | cpy (t : Ty) (x y : Opd)
  | mkm (va : Bool) (kt vt : Ty)
  | mks (eb : Nat) (t : Ty) (n c : Opd)
  | mu (va : Bool) (kt vt : Ty) (m k v : Opd)
  | dl (kt : Ty) (m k : Opd)
  | s2b (x : Opd)
  | call (f : Nat) (ms : List (Option (Nat × Ty))) (args : List Opd)
  | callv (f : Opd) (ms : List (Option (Nat × Ty))) (args : List Opd)

structure AOper where
  dst : Option Nat
  op : AOp
  guard : Option (Nat × Bool)

/-- What an operation comes to: what must hold for it, what is known then, its value. -/
structure QR where
  need : Prop
  hyp : Prop
  val : SV

def inR (k : IntKind) (n : Int) : Prop := k.min ≤ n ∧ n ≤ k.max

def SS.get (s : SS) : Opd → SV
  | .t n => lkF s.fr n
  | .c x => x
  | .f n => .fn n []

def ltS (a b : ByteArray) : Bool := Op.bytesLess a.data.toList b.data.toList

def bitsI (op : BinOp) (k : IntKind) (a b : Int) : Int :=
  let x := BitVec.ofInt k.bits a
  let y := BitVec.ofInt k.bits b
  match op with
  | .and => k.wrap (x &&& y).toNat
  | .or => k.wrap (x ||| y).toNat
  | .xor => k.wrap (x ^^^ y).toNat
  | _ => k.wrap (x &&& ~~~y).toNat

def binI (op : BinOp) (k k' : IntKind) (a b : Int) : Option QR :=
  match op with
  | .shl => some ⟨0 ≤ b, inR k a ∧ inR k' b, .int k (k.wrap (a * 2 ^ (min b.toNat k.bits)))⟩
  | .shr => some ⟨0 ≤ b, inR k a ∧ inR k' b, .int k (a.fdiv (2 ^ (min b.toNat k.bits)))⟩
  | .add => if k = k' then some ⟨True, inR k a ∧ inR k b, .int k (k.wrap (a + b))⟩ else none
  | .sub => if k = k' then some ⟨True, inR k a ∧ inR k b, .int k (k.wrap (a - b))⟩ else none
  | .mul => if k = k' then some ⟨True, inR k a ∧ inR k b, .int k (k.wrap (a * b))⟩ else none
  | .quo => if k = k' then some ⟨b ≠ 0, inR k a ∧ inR k b, .int k (k.wrap (a.tdiv b))⟩ else none
  | .rem => if k = k' then some ⟨b ≠ 0, inR k a ∧ inR k b, .int k (a.tmod b)⟩ else none
  | .and => if k = k' then some ⟨True, inR k a ∧ inR k b, .int k (bitsI .and k a b)⟩ else none
  | .or => if k = k' then some ⟨True, inR k a ∧ inR k b, .int k (bitsI .or k a b)⟩ else none
  | .xor => if k = k' then some ⟨True, inR k a ∧ inR k b, .int k (bitsI .xor k a b)⟩ else none
  | .andNot => if k = k' then some ⟨True, inR k a ∧ inR k b, .int k (bitsI .andNot k a b)⟩ else none
  | .eql => if k = k' then some ⟨True, True, .bool (decide (a = b))⟩ else none
  | .neq => if k = k' then some ⟨True, True, .bool (!decide (a = b))⟩ else none
  | .lss => if k = k' then some ⟨True, True, .bool (decide (a < b))⟩ else none
  | .leq => if k = k' then some ⟨True, True, .bool (decide (a ≤ b))⟩ else none
  | .gtr => if k = k' then some ⟨True, True, .bool (decide (b < a))⟩ else none
  | .geq => if k = k' then some ⟨True, True, .bool (decide (b ≤ a))⟩ else none

def binS (op : BinOp) (a b : ByteArray) : Option QR :=
  match op with
  | .add => some ⟨a.size + b.size ≤ maxLen, True, .str (a ++ b)⟩
  | .eql => some ⟨True, True, .bool (decide (a = b))⟩
  | .neq => some ⟨True, True, .bool (!decide (a = b))⟩
  | .lss => some ⟨True, True, .bool (ltS a b)⟩
  | .leq => some ⟨True, True, .bool (ltS a b || decide (a = b))⟩
  | .gtr => some ⟨True, True, .bool (!(ltS a b || decide (a = b)))⟩
  | .geq => some ⟨True, True, .bool (!ltS a b)⟩
  | _ => none

def pickV (c : Bool) (a b : SV) : SV :=
  match a, b with
  | .bool a, .bool b => .bool (bif c then a else b)
  | a, b => bif c then a else b

def Ty.keyOf : (t : Ty) → SV → Option t.den
  | .int k, .int k' n => if k = k' then some n else none
  | .str, .str s => some s
  | .bool, .bool b => some b
  | _, _ => none

def Ty.beq : (t : Ty) → t.den → t.den → Bool
  | .int _, a, b => decide ((a : Int) = b)
  | .byte, a, b => decide ((a : UInt8) = b)
  | .bool, a, b => decide ((a : Bool) = b)
  | .str, a, b => decide ((a : ByteArray) = b)
  | _, _, _ => false

def lookM (kt vt : Ty) (m : List (kt.den × vt.den)) (k : kt.den) : Option vt.den := (m.find? fun e => kt.beq e.1 k).map Prod.snd

/-- A value of a type, as a slot holds it. -/
def toV (va p : Bool) (t : Ty) (x : t.den) : Option SV :=
  match va with
  | true => some (.agg (t.sv p x))
  | false => match t.sv p x with
    | [y] => some y
    | _ => none

/-- The bounds of a slice expression. -/
def bound (s : SS) (d : Int) : Option Opd → Option Int
  | none => some d
  | some x => match s.get x with
    | .int _ n => some n
    | _ => none

/-- A value of one cell. -/
def SV.one : SV → Bool
  | .agg _ | .tup _ | .junk | .arr _ _ _ => false
  | _ => true

/-- A value's cells. -/
def flatS : SV → Option (List SV)
  | .agg l => some l
  | x => if x.one then some [x] else none

/-- The cells with the parts laid in. -/
def bldC (s : SS) : List SV → List (Nat × Nat × Opd) → Option (List SV)
  | l, [] => some l
  | l, (off, n, x) :: r => match flatS (s.get x) with
    | none => none
    | some new => if widthL new = n then match splC l off new with
        | some l' => bldC s l' r
        | none => none
      else none

def ev (o : AOp) (s : SS) : Option QR :=
  match o with
  | .mv x => some ⟨True, True, s.get x⟩
  | .pick c a b => match s.get c with
    | .bool c => some ⟨True, True, pickV c (s.get a) (s.get b)⟩
    | _ => none
  | .nck x => match s.get x with
    | .ptr i off => some ⟨True, True, .ptr i off⟩
    | .el i n sz off => some ⟨True, True, .el i n sz off⟩
    | .rel p eb t xs n off => some ⟨True, True, .rel p eb t xs n off⟩
    | .fn f caps => some ⟨True, True, .fn f caps⟩
    | _ => none
  | .fld off n x => match s.get x with
    | .agg l => match dropC l off with
      | none => none
      | some r => match n with
        | none => (headC r).map fun v => ⟨True, True, v⟩
        | some n => (takeC r n).map fun l' => ⟨True, True, .agg l'⟩
    | _ => none
  | .fa off x => match s.get x with
    | .ptr i o => some ⟨True, True, .ptr i (o + off)⟩
    | .el i n sz o => some ⟨True, True, .el i n sz (o + off)⟩
    | .rel p eb t xs n o => some ⟨True, True, .rel p eb t xs n (o + off)⟩
    | _ => none
  | .ia sz x i => match s.get i with
    | .int _ n => match s.get x with
      | .sl p eb t xs => if sz = t.size then some ⟨0 ≤ n ∧ n < xs.length, True, .rel p eb t xs n.toNat 0⟩ else none
      | .own j => match s.hp[j]? with
        | some (.row _ _ _ xs) => some ⟨0 ≤ n ∧ n < xs.length, True, .el j n.toNat sz 0⟩
        | _ => none
      | .vw j lo hi sz' => match s.hp[j]? with
        | some (.row _ _ t xs) => if sz = sz' ∧ sz = t.size then some ⟨0 ≤ n ∧ lo + n < hi ∧ hi ≤ xs.length, True, .el j (lo + n.toNat) sz 0⟩ else none
        | _ => none
      | _ => none
    | _ => none
  | .iaA len sz x i => match s.get i with
    | .int _ n => match s.get x with
      | .ptr j off => some ⟨0 ≤ n ∧ n < len, True, .ptrA j off n.toNat sz⟩
      | _ => none
    | _ => none
  | .ixS x i => match s.get x with
    | .str b => match s.get i with
      | .int _ n => some ⟨0 ≤ n ∧ n < b.size, True, .int .u8 ((b.data.toList.getD n.toNat 0).toNat : Int)⟩
      | _ => none
    | _ => none
  | .ld x => match seen s.hp (s.get x) with
    | none => none
    | some (need, l) => (headC l).map fun v => ⟨need, True, v⟩
  | .ldA n x => match seen s.hp (s.get x) with
    | none => none
    | some (need, l) => (takeC l n).map fun l' => ⟨need, True, .agg l'⟩
  | .bin op x y => match s.get x with
    | .int k a => match s.get y with
      | .int k' b => binI op k k' a b
      | _ => none
    | .str a => match s.get y with
      | .str b => binS op a b
      | _ => none
    | _ => none
  | .binB ng x y => match s.get x with
    | .bool a => match s.get y with
      | .bool b => some ⟨True, True, .bool (bif ng then !(a == b) else (a == b))⟩
      | _ => none
    | _ => none
  | .eqn ng k x y => match k, s.get x, s.get y with
    | .p, .nilp, .nilp => some ⟨True, True, .bool (!ng)⟩
    | .p, .nilp, .ptr _ _ => some ⟨True, True, .bool ng⟩
    | .p, .ptr _ _, .nilp => some ⟨True, True, .bool ng⟩
    | .s, .nils, .nils => some ⟨True, True, .bool (!ng)⟩
    | .m, .nilm, .nilm => some ⟨True, True, .bool (!ng)⟩
    | .m, .mp _, .nilm => some ⟨True, True, .bool ng⟩
    | .f, .nilf, .nilf => some ⟨True, True, .bool (!ng)⟩
    | .f, .fn _ _, .nilf => some ⟨True, True, .bool ng⟩
    | _, _, _ => none
  | .not x => match s.get x with
    | .bool b => some ⟨True, True, .bool (!b)⟩
    | _ => none
  | .neg x => match s.get x with
    | .int k n => some ⟨True, inR k n, .int k (k.wrap (0 - n))⟩
    | _ => none
  | .cv k x => match s.get x with
    | .int k' n => some ⟨True, inR k' n, .int k (k.wrap n)⟩
    | _ => none
  | .cvS x => match s.get x with
    | .str b => some ⟨True, True, .str b⟩
    | _ => none
  | .b2s x => match s.get x with
    | .nils => some ⟨True, True, .str ByteArray.empty⟩
    | y => match cont s.hp y with
      | some ⟨_, _, .byte, xs⟩ => some ⟨True, True, .str ⟨(xs : List UInt8).toArray⟩⟩
      | _ => none
  | .ext x i => match s.get x with
    | .tup l => (l[i]?).map fun v => ⟨True, True, v⟩
    | _ => none
  | .len .i x => match s.get x with
    | .str b => some ⟨True, b.size ≤ maxLen, .int .i64 b.size⟩
    | _ => none
  | .len .m x => match s.get x with
    | .nilm => some ⟨True, True, .int .i64 0⟩
    | .mp i => match s.hp[i]? with
      | some (.map _ _ _ m) => some ⟨True, m.length ≤ maxLen, .int .i64 m.length⟩
      | _ => none
    | _ => none
  | .len .s x => match s.get x with
    | .nils => some ⟨True, True, .int .i64 0⟩
    | y => match cont s.hp y with
      | some C => some ⟨True, C.xs.length ≤ maxLen ∧ C.xs.length * C.eb ≤ 140737488355328, .int .i64 C.xs.length⟩
      | none => none
  | .mm mx x y => match s.get x with
    | .int k a => match s.get y with
      | .int k' b => if k = k' then some ⟨True, True, .int k (bif mx then (if a < b then b else a) else (if b < a then b else a))⟩ else none
      | _ => none
    | _ => none
  | .lk va kt vt ok x k => match s.get x with
    | .mp i => match s.hp[i]? with
      | some (.map va' kt' vt' m) => if va' = va ∧ kt' = kt ∧ vt' = vt then match kt'.keyOf (s.get k) with
        | some key => match toV va' true vt' ((lookM kt' vt' m key).getD vt'.dflt) with
          | some y => some ⟨True, True, if ok then .tup [y, .bool (lookM kt' vt' m key).isSome] else y⟩
          | none => none
        | none => none else none
      | _ => none
    | _ => none
  | .bld zs parts => (bldC s zs parts).map fun l => ⟨True, True, .agg l⟩
  | .mkf f caps => some ⟨True, True, .fn f (caps.map s.get)⟩
  | .slS x lo hi => match s.get x with
    | .str b => match bound s 0 lo, bound s b.size hi with
      | some l, some h => some ⟨0 ≤ l ∧ l ≤ h ∧ h ≤ b.size, True, .str (b.extract l.toNat h.toNat)⟩
      | _, _ => none
    | _ => none
  | .slR sz x lo hi => match s.get x with
    | .nils => match bound s 0 lo, bound s 0 hi with
      | some l, some h => some ⟨l = 0 ∧ h = 0, True, .nils⟩
      | _, _ => none
    | .sl p eb t xs => if sz = t.size then match bound s 0 lo, bound s xs.length hi with
      | some l, some h => some ⟨0 ≤ l ∧ l ≤ h ∧ h ≤ xs.length, True, .sl p eb t ((xs.drop l.toNat).take (h.toNat - l.toNat))⟩
      | _, _ => none else none
    | .own j => match s.hp[j]? with
      | some (.row _ _ t xs) => match bound s 0 lo, bound s xs.length hi with
        | some l, some h => if sz = t.size then some ⟨0 ≤ l ∧ l ≤ h ∧ h ≤ xs.length, True, .vw j l.toNat h.toNat sz⟩ else none
        | _, _ => none
      | _ => none
    | .vw j a b sz' => match s.hp[j]? with
      | some (.row _ _ t xs) => match bound s 0 lo, bound s (b - a : Nat) hi with
        | some l, some h => if sz = sz' ∧ sz = t.size then some ⟨0 ≤ l ∧ l ≤ h ∧ h ≤ (b - a : Nat), True, .vw j (a + l.toNat) (a + h.toNat) sz⟩ else none
        | _, _ => none
      | _ => none
    | _ => none
  | _ => none

end Go.V
