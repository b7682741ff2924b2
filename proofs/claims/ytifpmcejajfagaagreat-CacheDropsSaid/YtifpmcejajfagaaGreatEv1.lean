/- The ideal evaluator: values, store, frames, operations, code, calls. Definitions only. -/
import Derived.Calls
import Derived.Orders
import Derived.KernelRfl
import Derived.Below
set_option linter.all false
namespace Go.Ev

inductive T (α : Type) where
  | e : T α
  | n (l : T α) (v : Option α) (r : T α) : T α

def T.get {α : Type} : T α → Nat → Option α
  | .e, _ => none
  | .n l v r, k => bif Nat.beq k 0 then v else bif Nat.beq (k % 2) 1 then l.get (k / 2) else r.get (k / 2 - 1)

def T.setF {α : Type} : Nat → T α → Nat → Option α → T α
  | 0, t, _, _ => t
  | f + 1, .e, k, x =>
    bif Nat.beq k 0 then .n .e x .e else bif Nat.beq (k % 2) 1 then .n (T.setF f .e (k / 2) x) none .e else .n .e none (T.setF f .e (k / 2 - 1) x)
  | f + 1, .n l v r, k, x =>
    bif Nat.beq k 0 then .n l x r else bif Nat.beq (k % 2) 1 then .n (T.setF f l (k / 2) x) v r else .n l v (T.setF f r (k / 2 - 1) x)

def T.put {α : Type} (t : T α) (k : Nat) (x : Option α) : T α := T.setF (k + 1) t k x

structure N8 (α : Type) where
  a : α
  b : α
  c : α
  d : α
  e : α
  f : α
  g : α
  h : α
def N8.get {α : Type} (n : N8 α) : Nat → α
  | 0 => n.a | 1 => n.b | 2 => n.c | 3 => n.d | 4 => n.e | 5 => n.f | 6 => n.g | _ => n.h
def N8.mod {α : Type} (n : N8 α) (x : α → α) : Nat → N8 α
  | 0 => ⟨x n.a, n.b, n.c, n.d, n.e, n.f, n.g, n.h⟩ | 1 => ⟨n.a, x n.b, n.c, n.d, n.e, n.f, n.g, n.h⟩
  | 2 => ⟨n.a, n.b, x n.c, n.d, n.e, n.f, n.g, n.h⟩ | 3 => ⟨n.a, n.b, n.c, x n.d, n.e, n.f, n.g, n.h⟩
  | 4 => ⟨n.a, n.b, n.c, n.d, x n.e, n.f, n.g, n.h⟩ | 5 => ⟨n.a, n.b, n.c, n.d, n.e, x n.f, n.g, n.h⟩
  | 6 => ⟨n.a, n.b, n.c, n.d, n.e, n.f, x n.g, n.h⟩ | _ => ⟨n.a, n.b, n.c, n.d, n.e, n.f, n.g, x n.h⟩
def N8.all {α : Type} (x : α) : N8 α := ⟨x, x, x, x, x, x, x, x⟩
/-- names of values: a table, and more behind it -/
structure W (α : Type) where
  w : N8 (N8 (N8 (Option α)))
  more : T α
def W.e {α : Type} : W α := ⟨N8.all (N8.all (N8.all none)), .e⟩
def W.get {α : Type} (t : W α) (k : Nat) : Option α :=
  bif Nat.blt k 512 then ((t.w.get (k / 64)).get (k / 8 % 8)).get (k % 8) else t.more.get k
def W.put {α : Type} (t : W α) (k : Nat) (x : Option α) : W α :=
  bif Nat.blt k 512 then ⟨t.w.mod (fun n => n.mod (fun n => n.mod (fun _ => x) (k % 8)) (k / 8 % 8)) (k / 64), t.more⟩ else ⟨t.w, t.more.put k x⟩

inductive SX where
  | v (i : Nat) (k : IntKind)
  | c (n : Int)
  | b (op : BinOp) (k : IntKind) (x y : SX)
  | w (k : IntKind) (x : SX)
  | u (op : UnOp) (k : IntKind) (x : SX)
inductive BX where
  | eq (x y : SX)
  | lt (x y : SX)

structure Pl where
  b : Nat
  o : Nat

inductive V where
  | junk
  | bo (x : Bool)
  | i (k : IntKind) (n : Int)
  | s (x : ByteArray)
  | fl (k : FloatKind) (bits : Nat)
  | p (a : Option Pl)
  | sl (a : Option Pl) (len cap z : Nat)
  | sle
  | mp (r : Option Nat)
  | fn (f : Fn) (n : Nat) (g : Nat → V)
  | nilfn
  | ifc (t : TypeId) (v : V)
  | nilifc
  | agg (n : Nat) (f : Nat → V)
  | tup (n : Nat) (f : Nat → V)
  | sym (k : IntKind) (e : SX)
  | symb (b : BX) (neg : Bool)

  | slx (b : Nat) (e : SX)

  | symS (e : SX)

def ofL : List V → Nat → V
  | [], _ => .junk
  | v :: l, j => match j with
    | 0 => v
    | j + 1 => ofL l j

def tab (f : Nat → V) : Nat → Nat → List V
  | 0, _ => []
  | n + 1, i => f i :: tab f n (i + 1)

/-- small rows are written out -/
def canon (n : Nat) (f : Nat → V) : Nat → V := bif Nat.ble n 64 then ofL (tab f n 0) else f

def V.int : V → Int
  | .i _ n => n
  | _ => 0
def V.bool : V → Bool
  | .bo x => x
  | _ => false
def V.str : V → ByteArray
  | .s x => x
  | _ => ⟨#[]⟩
def V.bits : V → Nat
  | .fl _ b => b
  | _ => 0
def kindEq : IntKind → IntKind → Bool
  | .i8, .i8 | .i16, .i16 | .i32, .i32 | .i64, .i64 | .u8, .u8 | .u16, .u16 | .u32, .u32 | .u64, .u64 => true
  | _, _ => false
def V.isI (k : IntKind) : V → Bool
  | .i k' _ => kindEq k k'
  | _ => false
def V.isB : V → Bool
  | .bo _ => true
  | _ => false
def V.isS : V → Bool
  | .s _ => true
  | _ => false
def V.isF : V → Bool
  | .fl .f64 _ => true
  | _ => false
/-- how many cells, and which -/
def V.size : V → Nat
  | .agg n _ => n
  | .tup _ _ => 0
  | .junk => 0
  | _ => 1
def V.cell : V → Nat → V
  | .agg _ f, j => f j
  | v, _ => v

structure Blk where
  n : Nat
  get : Nat → V
  elem : TypeId
  ro : Bool
  mates : List Nat
  log : List (Nat × Nat)
  z : Option SX

structure Ent where
  key : V
  val : V
  born : Nat
/-- maps, and how far they were gone through -/
inductive One where
  | mp (es : List Ent) (clock : Nat)
  | it (map : Option Nat) (since : Nat) (seen : List Nat) (stepped : Nat)
inductive Ob where
  | cells (k : Blk)
  | one (x : One)

/-- what is known of the numbers that are known by a name: tellings, and bounds of those that may be told apart -/
structure Facts where
  l : List (BX × Bool)
  r : List (SX × Int × Int)

structure Store where
  nx : Nat
  t : T Ob
  Γ : Facts

def Store.blk (σ : Store) (b : Nat) : Option Blk :=
  match σ.t.get b with
  | some (.cells k) => some k
  | _ => none
def Store.one (σ : Store) (b : Nat) : Option One :=
  match σ.t.get b with
  | some (.one x) => some x
  | _ => none
def Store.newOne (σ : Store) (x : One) : Store := ⟨σ.nx + 1, σ.t.put σ.nx (some (.one x)), σ.Γ⟩
def Store.setOne (σ : Store) (b : Nat) (x : One) : Store := ⟨σ.nx, σ.t.put b (some (.one x)), σ.Γ⟩
def Store.new (σ : Store) (k : Blk) : Store := ⟨σ.nx + 1, σ.t.put σ.nx (some (.cells k)), σ.Γ⟩
def killAll (t : T Ob) : List Nat → T Ob
  | [] => t
  | b :: l => killAll (t.put b none) l

def upd1 (g : Nat → V) (o : Nat) (v : V) : Nat → V := fun j => bif Nat.beq j o then v else g j
def updN (g : Nat → V) (o n : Nat) (f : Nat → V) : Nat → V := fun j => bif Nat.ble o j && Nat.blt j (o + n) then f (j - o) else g j
def updV (g : Nat → V) (o : Nat) : V → Nat → V
  | .agg n f => updN g o n f
  | v => upd1 g o v

structure Fr where
  nt : Nat
  t : W V

/-- what an operation comes to: a check, the value (none: nothing), the store -/
structure Rs where
  c : Bool
  v : Option V
  σ : Store

variable (P : Program)

def size? (t : TypeId) : Option Nat := (P.info? t).map (·.size)

def ofConst : Value → Option V
  | .bool b => some (.bo b)
  | .int k n => some (.i k n)
  | .string s => some (.s s)
  | .float k b => some (.fl k b)
  | .pointer none => some (.p none)
  | .slice none 0 0 => some (.sl none 0 0 0)
  | .map none => some (.mp none)
  | .nilFunc => some .nilfn
  | .nilIface => some .nilifc
  | _ => none
def ofConsts : List Value → Option (List V)
  | [] => some []
  | v :: l => match ofConst v, ofConsts l with
    | some x, some xs => some (x :: xs)
    | _, _ => none
/-- of a zero value, or a constant with several cells: cell by cell -/
def ofConstAgg (v : Value) : Option V :=
  match v with
  | .agg cs => some (.agg cs.size fun j => ((cs[j]?).bind ofConst).getD .junk)
  | v => ofConst v

def Fr.opd (fr : Fr) : Operand → Option V
  | .tmp t => fr.t.get t
  | .const v => ofConst v
  | .global _ => none
  | .func f => some (.fn (.func f) 0 (ofL []))

/-- a value as one of a type: the check, the value -/
def coerce (d : TypeDesc) (v : V) : Bool × V :=
  match d with
  | .int k => match v with
    | .sym k' e => (kindEq k k', .sym k e)
    | v => (v.isI k, .i k v.int)
  | .bool => match v with
    | .symb b neg => (true, .symb b neg)
    | v => (v.isB, .bo v.bool)
  | .string => match v with
    | .symS e => (true, .symS e)
    | v => (v.isS, .s v.str)
  | .float .f64 => (v.isF, .fl .f64 v.bits)
  | _ => (true, v)

/-- part of cells, as one of a type -/
def partV (t : TypeId) (f : Nat → V) (off : Nat) : Option (Bool × V) :=
  match P.underlying t, P.info? t with
  | some (.struct _), some i | some (.array _ _), some i => some (true, .agg i.size (canon i.size fun j => f (off + j)))
  | some d, some _ => some (coerce d (f off))
  | _, _ => none

def asB : V → Option Bool
  | .bo x => some x
  | _ => none

def iand (k : IntKind) (a b : Int) : Int := k.wrap (BitVec.ofInt k.bits a &&& BitVec.ofInt k.bits b).toNat
def ior (k : IntKind) (a b : Int) : Int := k.wrap (BitVec.ofInt k.bits a ||| BitVec.ofInt k.bits b).toNat
def ixor (k : IntKind) (a b : Int) : Int := k.wrap (BitVec.ofInt k.bits a ^^^ BitVec.ofInt k.bits b).toNat
def iandn (k : IntKind) (a b : Int) : Int := k.wrap (BitVec.ofInt k.bits a &&& ~~~ BitVec.ofInt k.bits b).toNat
def inot (k : IntKind) (a : Int) : Int := k.wrap (BitVec.ofInt k.bits (if k.signed then -1 else k.max) ^^^ BitVec.ofInt k.bits a).toNat
def ishl (k : IntKind) (a b : Int) : Int := k.wrap (a * 2 ^ (min b.toNat k.bits))
def ishr (k : IntKind) (a b : Int) : Int := a.fdiv (2 ^ (min b.toNat k.bits))

def binInt (op : BinOp) (k : IntKind) (a b : Int) : Option (Bool × V) :=
  match op with
  | .add => some (true, .i k (k.wrap (a + b)))
  | .sub => some (true, .i k (k.wrap (a - b)))
  | .mul => some (true, .i k (k.wrap (a * b)))
  | .quo => some (b != 0, .i k (k.wrap (a.tdiv b)))
  | .rem => some (b != 0, .i k (a.tmod b))
  | .and => some (true, .i k (iand k a b))
  | .or => some (true, .i k (ior k a b))
  | .xor => some (true, .i k (ixor k a b))
  | .andNot => some (true, .i k (iandn k a b))
  | .eql => some (true, .bo (a == b))
  | .neq => some (true, .bo (a != b))
  | .lss => some (true, .bo (decide (a < b)))
  | .leq => some (true, .bo (decide (a ≤ b)))
  | .gtr => some (true, .bo (decide (a > b)))
  | .geq => some (true, .bo (decide (a ≥ b)))
  | .shl => some (decide (0 ≤ b), .i k (ishl k a b))
  | .shr => some (decide (0 ≤ b), .i k (ishr k a b))

def opNo : BinOp → Nat
  | .add => 0 | .sub => 1 | .mul => 2 | .quo => 3 | .rem => 4 | .and => 5 | .or => 6 | .xor => 7 | .andNot => 8
  | .eql => 9 | .neq => 10 | .lss => 11 | .leq => 12 | .gtr => 13 | .geq => 14 | .shl => 15 | .shr => 16
def uopNo : UnOp → Nat
  | .neg => 0 | .xor => 1 | .not => 2 | .plus => 3
def SX.same : SX → SX → Bool
  | .v i k, .v j k' => Nat.beq i j && kindEq k k'
  | .c n, .c m => decide (n = m)
  | .b o k x y, .b o' k' x' y' => Nat.beq (opNo o) (opNo o') && (kindEq k k' && (SX.same x x' && SX.same y y'))
  | .w k x, .w k' x' => kindEq k k' && SX.same x x'
  | .u o k x, .u o' k' x' => Nat.beq (uopNo o) (uopNo o') && (kindEq k k' && SX.same x x')
  | _, _ => false
def intMax : IntKind → Int
  | .i8 => 127 | .i16 => 32767 | .i32 => 2147483647 | .i64 => 9223372036854775807
  | .u8 => 255 | .u16 => 65535 | .u32 => 4294967295 | .u64 => 18446744073709551615
def intMin : IntKind → Int
  | .i8 => -128 | .i16 => -32768 | .i32 => -2147483648 | .i64 => -9223372036854775808
  | _ => 0
def fitB (k : IntKind) (lo hi : Int) : Int × Int :=
  bif decide (intMin k ≤ lo) && decide (hi ≤ intMax k) then (lo, hi) else (intMin k, intMax k)
/-- bounds -/
def SX.bnd : SX → Option (Int × Int)
  | .v _ k => some (intMin k, intMax k)
  | .c n => some (n, n)
  | .w k x => match x.bnd with
    | some (l1, h1) => some (fitB k l1 h1)
    | none => some (intMin k, intMax k)
  | .b op k x y => match op with
    | .add => match x.bnd, y.bnd with
      | some (l1, h1), some (l2, h2) => some (fitB k (l1 + l2) (h1 + h2))
      | _, _ => none
    | .sub => match x.bnd, y.bnd with
      | some (l1, h1), some (l2, h2) => some (fitB k (l1 - h2) (h1 - l2))
      | _, _ => none
    | .quo => match x.bnd, y with
      | some (l1, h1), .c n => bif decide (0 ≤ l1) && decide (0 < n) then some (fitB k (l1 / n) (h1 / n)) else none
      | _, _ => none
    | .rem => match x.bnd, y with
      | some (l1, _), .c n => bif decide (0 ≤ l1) && decide (0 < n) then some (0, n - 1) else none
      | _, _ => none
    | _ => none
  | .u _ _ _ => none
/-- '==' and '<' of two, told at once where it is plain -/
def eqX (x y : SX) (neg : Bool) : V := bif SX.same x y then .bo (!neg) else
  match x.bnd, y.bnd with
  | some (a, b), some (c, d) => bif decide (b < c) || decide (d < a) then .bo neg else .symb (.eq x y) neg
  | _, _ => .symb (.eq x y) neg
def ltX (x y : SX) (neg : Bool) : V := bif SX.same x y then .bo neg else
  match x.bnd, y.bnd with
  | some (a, b), some (c, d) => bif decide (b < c) then .bo (!neg) else bif decide (d ≤ a) then .bo neg else .symb (.lt x y) neg
  | _, _ => .symb (.lt x y) neg
def binX (op : BinOp) (k : IntKind) (x y : SX) : Option V :=
  match op with
  | .eql => some (eqX x y false)
  | .neq => some (eqX x y true)
  | .lss => some (ltX x y false)
  | .geq => some (ltX x y true)
  | .gtr => some (ltX y x false)
  | .leq => some (ltX y x true)
  | .add => some (.sym k (.b .add k x y))
  | .sub => some (.sym k (.b .sub k x y))
  | .mul => some (.sym k (.b .mul k x y))
  | .and => some (.sym k (.b .and k x y))
  | .or => some (.sym k (.b .or k x y))
  | .xor => some (.sym k (.b .xor k x y))
  | .andNot => some (.sym k (.b .andNot k x y))
  | _ => none
/-- by a number: not by nought -/
def binXC (op : BinOp) (k : IntKind) (x : SX) (n : Int) : Option V :=
  match op with
  | .quo => bif decide (n = 0) then none else some (.sym k (.b .quo k x (.c n)))
  | .rem => bif decide (n = 0) then none else some (.sym k (.b .rem k x (.c n)))
  | op => binX op k x (.c n)
def shX (op : BinOp) (k : IntKind) (x : SX) (n : Int) : Option V :=
  match op with
  | .shl => bif decide (0 ≤ n) then some (.sym k (.b .shl k x (.c n))) else none
  | .shr => bif decide (0 ≤ n) then some (.sym k (.b .shr k x (.c n))) else none
  | _ => none

def strEq (x y : ByteArray) : Bool := x.data.toList == y.data.toList

def eqFs (eq : TypeId → Nat → (Nat → V) → (Nat → V) → Bool × Bool) (N : Nat) (f g : Nat → V) : List Field → Bool × Bool
  | [] => (true, true)
  | x :: l => match P.info? x.type with
    | some i =>
      ((!(x.name == "_")) && (Nat.ble (x.offset + i.size) N && ((eq x.type i.size (fun j => f (x.offset + j)) (fun j => g (x.offset + j))).1 && (eqFs eq N f g l).1)),
        (eq x.type i.size (fun j => f (x.offset + j)) (fun j => g (x.offset + j))).2 && (eqFs eq N f g l).2)
    | none => (false, false)
def arC (eq : Nat → (Nat → V) → (Nat → V) → Bool × Bool) (sz : Nat) (f g : Nat → V) : Nat → Nat → Bool
  | 0, _ => true
  | n + 1, i => (eq sz (fun j => f (i * sz + j)) (fun j => g (i * sz + j))).1 && arC eq sz f g n (i + 1)
def arR (eq : Nat → (Nat → V) → (Nat → V) → Bool × Bool) (sz : Nat) (f g : Nat → V) : Nat → Nat → Bool
  | 0, _ => true
  | n + 1, i => (eq sz (fun j => f (i * sz + j)) (fun j => g (i * sz + j))).2 && arR eq sz f g n (i + 1)
def eqT : Nat → TypeId → Nat → (Nat → V) → (Nat → V) → Bool × Bool
  | 0, _, _, _, _ => (false, false)
  | d + 1, t, N, f, g =>
    match P.underlying t with
    | some .bool => (Nat.blt 0 N && ((f 0).isB && (g 0).isB), (f 0).bool == (g 0).bool)
    | some (.int k) => (Nat.blt 0 N && ((f 0).isI k && (g 0).isI k), (f 0).int == (g 0).int)
    | some .string => (Nat.blt 0 N && ((f 0).isS && (g 0).isS), strEq (f 0).str (g 0).str)
    | some (.struct fs) => ((!P.stoodInHeld t) && (eqFs P (eqT d) N f g fs.toList).1, (eqFs P (eqT d) N f g fs.toList).2)
    | some (.array n e) => match P.info? e with
      | some i => (Nat.ble (n * i.size) N && (Nat.blt 0 i.size && arC (eqT d e) i.size f g n 0), arR (eqT d e) i.size f g n 0)
      | none => (false, false)
    | _ => (false, false)

def aggD' : TypeDesc → Bool
  | .struct _ | .array _ _ => true
  | _ => false
/-- '==' where one is nil -/
def nilEq {α : Type} : Option α → Option α → Option Bool
  | none, b => some b.isNone
  | some _, none => some false
  | some _, some _ => none
def eqRes (op : BinOp) (r : Bool) : Option (Bool × V) :=
  match op with
  | .eql => some (true, .bo r)
  | .neq => some (true, .bo (!r))
  | _ => none

def evBin (op : BinOp) (t : TypeId) (x y : V) : Option (Bool × V) :=
  match x, y with
  | .i k a, .i k' b => match op with
    | .shl | .shr => binInt op k a b
    | _ => bif kindEq k k' then binInt op k a b else none
  | .sym k a, .i k' b => match op with
    | .shl | .shr => (shX op k a b).map fun v => (true, v)
    | _ => bif kindEq k k' then (binXC op k a b).map fun v => (true, v) else none
  | .i k a, .sym k' b => bif kindEq k k' then (binX op k (.c a) b).map fun v => (true, v) else none
  | .sym k a, .sym k' b => bif kindEq k k' then (binX op k a b).map fun v => (true, v) else none
  | .symb b neg, .bo a => match P.underlying t, op with
    | some .bool, .eql => some (true, .symb b (neg == a))
    | some .bool, .neq => some (true, .symb b (!(neg == a)))
    | _, _ => none
  | .bo a, .symb b neg => match P.underlying t, op with
    | some .bool, .eql => some (true, .symb b (neg == a))
    | some .bool, .neq => some (true, .symb b (!(neg == a)))
    | _, _ => none
  | .bo a, .bo b => match P.underlying t, op with
    | some .bool, .eql => some (true, .bo (a == b))
    | some .bool, .neq => some (true, .bo (!(a == b)))
    | _, _ => none
  | .s a, .s b => match op with
    | .add => some (decide (((a.size + b.size : Nat) : Int) ≤ IntKind.i64.max), .s (a ++ b))
    | .eql => some (true, .bo (strEq a b))
    | .neq => some (true, .bo (!(strEq a b)))
    | _ => none
  | .symS e, .s b => bif Nat.beq b.size 0 then (match op with
      | .eql => some (true, eqX e (.c 0) false)
      | .neq => some (true, eqX e (.c 0) true)
      | _ => none) else none
  | .p a, .p b => match P.underlying t, nilEq a b with
    | some (.pointer _), some r => eqRes op r
    | _, _ => none
  | .sl a _ _ _, .sl b _ _ _ => match P.underlying t, nilEq a b with
    | some (.slice _), some r => eqRes op r
    | _, _ => none
  | .mp a, .mp b => match P.underlying t, nilEq a b with
    | some (.map _ _), some r => eqRes op r
    | _, _ => none
  | .sle, .sl none _ _ _ => match P.underlying t with
    | some (.slice _) => eqRes op false
    | _ => none
  | .nilfn, .nilfn => match P.underlying t with
    | some (.func _ _ _) => eqRes op true
    | _ => none
  | .nilfn, .fn _ _ _ => match P.underlying t with
    | some (.func _ _ _) => eqRes op false
    | _ => none
  | .fn _ _ _, .nilfn => match P.underlying t with
    | some (.func _ _ _) => eqRes op false
    | _ => none
  | .agg n f, .agg n' g => bif P.eqGuardType P.depth t then none else
    match P.underlying t, P.info? t with
    | some d, some i => match op with
      | .eql => some (aggD' d && (Nat.beq n i.size && (Nat.beq n n' && (eqT P 10000 t n f g).1)), .bo (eqT P 10000 t n f g).2)
      | .neq => some (aggD' d && (Nat.beq n i.size && (Nat.beq n n' && (eqT P 10000 t n f g).1)), .bo (!(eqT P 10000 t n f g).2))
      | _ => none
    | _, _ => none
  | _, _ => none

def evUn (op : UnOp) (x : V) : Option V :=
  match op, x with
  | .neg, .i k n => some (.i k (k.wrap (0 - n)))
  | .xor, .i k n => some (.i k (inot k n))
  | .not, .bo b => some (.bo (!b))
  | .not, .symb b neg => some (.symb b (!neg))
  | .neg, .sym k e => some (.sym k (.u .neg k e))
  | .xor, .sym k e => some (.sym k (.u .xor k e))
  | _, _ => none

def evConvert (src dst : TypeId) (x : V) : Option V :=
  match P.underlying src, P.underlying dst, x with
  | some (.int _), some (.int k), .i _ n => some (.i k (k.wrap n))
  | some (.int _), some (.int k), .sym _ e => some (.sym k (.w k e))
  | some .string, some .string, .s x => some (.s x)
  | _, _, _ => none

/-- the parts of a composite, laid over its noughts -/
def fillV (place : Nat → Option (Nat × Nat)) (n : Nat) (g : Nat → V) : List (Nat × V) → Option (Nat → V)
  | [] => some g
  | (i, v) :: l => match place i with
    | some (off, sz) => bif Nat.blt 0 sz && (Nat.beq v.size sz && Nat.ble (off + sz) n) then fillV place n (updV g off v) l else none
    | none => none
def zeroV (t : TypeId) : Option (Nat × (Nat → V)) :=
  match P.info? t with
  | some i => match i.zero with
    | some z => bif z.cells.toList.all fun v => (ofConst v).isSome then
        some (z.cells.size, fun j => ((z.cells[j]?).bind ofConst).getD .junk) else none
    | none => none
  | none => none
def opdParts (ρ : Operand → Option V) : List (Nat × Operand) → Option (List (Nat × V))
  | [] => some []
  | (i, x) :: l => match ρ x, opdParts ρ l with
    | some v, some r => some ((i, v) :: r)
    | _, _ => none
def fieldPlaces : List Field → Option (List (Nat × Nat))
  | [] => some []
  | f :: l => match P.info? f.type, fieldPlaces l with
    | some i, some r => some ((f.offset, i.size) :: r)
    | _, _ => none
def repeatV (sz : Nat) (z : Nat → V) : Nat → V := fun j => z (j % sz)

def evBuild (t : TypeId) (parts : List (Nat × V)) : Option V :=
  match zeroV P t, P.underlying t with
  | some (n, z), some (.struct fs) => match fieldPlaces P fs.toList with
    | some ps => match fillV (ps[·]?) n z parts with
      | some g => some (.agg n (canon n g))
      | none => none
    | none => none
  | some (n, z), some (.array _ e) => match P.info? e with
    | some i => match fillV (fun k => some (k * i.size, i.size)) n z parts with
      | some g => some (.agg n (canon n g))
      | none => none
    | none => none
  | _, _ => none
def evBuildSlice (t : TypeId) (len : Nat) (parts : List (Nat × V)) (σ : Store) : Option Rs :=
  match P.underlying t with
  | some (.slice e) => match P.info? e, zeroV P e with
    | some i, some (sz, z) =>
      bif Nat.beq sz i.size && Nat.ble (len * sz) 16777216 && Nat.blt 0 sz then
        match fillV (fun k => some (k * sz, sz)) (len * sz) (repeatV sz z) parts with
        | some g => some ⟨true, some (.sl (some ⟨σ.nx, 0⟩) len len 0), σ.new ⟨len * sz, canon (len * sz) g, e, false, [], [], none⟩⟩
        | none => none
      else none
    | _, _ => none
  | _ => none

def evLoad (t : TypeId) (a : V) (σ : Store) : Option Rs :=
  match a with
  | .p (some a) => match σ.blk a.b, P.info? t with
    | some k, some i => (partV P t k.get a.o).map fun (c, v) => ⟨Nat.blt 0 i.size && (Nat.ble (a.o + i.size) k.n && c), some v, σ⟩
    | _, _ => none
  | _ => none
/-- writes into a block: its mates go -/
def Store.write (σ : Store) (b : Nat) (k : Blk) (o n : Nat) (g : Nat → V) : Store :=
  ⟨σ.nx, (killAll σ.t k.mates).put b (some (.cells ⟨k.n, g, k.elem, k.ro, [], (o, n) :: k.log, none⟩)), σ.Γ⟩
def canonIf (n : Nat) (g : Nat → V) : Nat → V := bif Nat.ble n 16 then ofL (tab g n 0) else g
def evStore (t : TypeId) (a v : V) (σ : Store) : Option Rs :=
  match a with
  | .p (some a) => match σ.blk a.b, P.info? t with
    | some k, some i =>
      bif k.ro then none else
      bif Nat.blt 0 i.size && Nat.beq v.size i.size then some ⟨Nat.ble (a.o + i.size) k.n, none, σ.write a.b k a.o v.size (canonIf k.n (updV k.get a.o v))⟩ else none
    | _, _ => none
  | _ => none

def addPl (a : Pl) (n : Nat) : Pl := ⟨a.b, a.o + n⟩

def evFieldAddr (t : TypeId) (x : V) (f : Nat) : Option V :=
  match P.underlying t, x with
  | some (.struct fs), .p (some a) => (fs[f]?).bind fun fd => (P.info? fd.type).bind fun i => bif Nat.beq i.size 0 then none else some (.p (some (addPl a fd.offset)))
  | _, _ => none
def evIndexAddr (t : TypeId) (x ix : V) : Option (Bool × V) :=
  match ix with
  | .i _ n => match P.underlying t, x with
    | some (.array len e), .p (some a) => (P.info? e).map fun i => (decide (0 ≤ n) && decide (n < len), .p (some (addPl a (n.toNat * i.size))))
    | some (.slice e), .sl (some a) len _ _ => (P.info? e).map fun i => (decide (0 ≤ n) && decide (n < len), .p (some (addPl a (n.toNat * i.size))))
    | _, _ => none
  | _ => none
def evIndex (t : TypeId) (x ix : V) : Option (Bool × V) :=
  match ix with
  | .i _ n => match P.underlying t, x with
    | some (.array len e), .agg sz f => (P.info? e).bind fun i => (partV P e f (n.toNat * i.size)).map fun (c, v) => (decide (0 ≤ n) && (decide (n < len) && (Nat.blt 0 i.size && (Nat.ble (n.toNat * i.size + i.size) sz && c))), v)
    | some .string, .s s => some (decide (0 ≤ n) && decide (n < s.size), .i .u8 (((s[n.toNat]?).map fun b => (b.toNat : Int)).getD 0))
    | _, _ => none
  | _ => none
def evField (t : TypeId) (x : V) (f : Nat) : Option (Bool × V) :=
  match P.underlying t, x with
  | some (.struct fs), .agg n g => (fs[f]?).bind fun fd => (P.info? fd.type).bind fun i =>
    (partV P fd.type g fd.offset).map fun (c, v) => (Nat.blt 0 i.size && (Nat.ble (fd.offset + i.size) n && c), v)
  | _, _ => none

/-- bounds of a slice expression: none given: 0, len -/
def bnd (x : Option V) (d : Nat) : Option (Bool × Nat) :=
  match x with
  | none => some (true, d)
  | some (.i _ n) => some (decide (0 ≤ n), n.toNat)
  | some _ => none
def evSlice (t : TypeId) (x : V) (lo hi : Option V) : Option (Bool × V) :=
  match P.underlying t, x with
  | some .string, .s s => match bnd lo 0, bnd hi s.size with
    | some (c, l), some (c', h) => some (c && (c' && (Nat.ble l h && Nat.ble h s.size)), .s (s.extract l h))
    | _, _ => none
  | some (.slice e), .sl a len cap z => match bnd lo 0, bnd hi len, P.info? e with
    | some (c, l), some (c', h), some i =>
      match z with
      | 0 => some (c && (c' && (Nat.ble l h && Nat.ble h cap)), .sl (a.map fun a => ⟨a.b, bif Nat.beq l cap then a.o else a.o + l * i.size⟩) (h - l) (cap - l) 0)
      | z + 1 => bif Nat.beq l cap && !Nat.beq l 0 then some (c && (c' && (Nat.ble l h && Nat.ble h cap)), .sle) else
        some (c && (c' && (Nat.ble l h && (Nat.ble h cap && (Nat.beq l 0 || Nat.blt l cap && Nat.beq (z + 1) i.size)))), .sl (a.map fun a => addPl a (l * i.size)) (h - l) (cap - l) (z + 1))
    | _, _, _ => none
  | some (.array n e), .p (some a) => match bnd lo 0, bnd hi n, P.info? e with
    | some (c, l), some (c', h), some i => some (c && (c' && (Nat.ble l h && (Nat.ble h n && Nat.blt l n))), .sl (some (addPl a (l * i.size))) (h - l) (n - l) 0)
    | _, _, _ => none
  | _, _ => none

def opds (ρ : Operand → Option V) : List Operand → Option (List V)
  | [] => some []
  | x :: l => match ρ x, opds ρ l with
    | some v, some r => some (v :: r)
    | _, _ => none
def opdO (ρ : Operand → Option V) : Option Operand → Option (Option V)
  | none => some none
  | some x => (ρ x).map some

def evMakeSlice (t : TypeId) (len cap : V) (σ : Store) : Option Rs :=
  match P.underlying t, len, cap with
  | some (.slice e), .i _ l, .i _ c => match P.info? e, zeroV P e with
    | some i, some (sz, z) =>
      bif Nat.beq sz i.size && Nat.blt 0 sz then
        some ⟨decide (0 ≤ l) && (decide (l ≤ c) && (decide (c ≤ 140737488355328) && decide (c * i.bytes ≤ 140737488355328))),
          some (.sl (some ⟨σ.nx, 0⟩) l.toNat c.toNat 0), σ.new ⟨c.toNat * sz, repeatV sz z, e, false, [], [], none⟩⟩
      else none
    | _, _ => none
  | some (.slice e), .sym .i64 l, .sym .i64 c => bif SX.same l c then (match P.underlying e, P.info? e, zeroV P e, l.bnd with
    | some (.int .u8), some i, some (1, z), some (lo, hi) => (match z 0 with
      | .i .u8 (.ofNat 0) =>
        bif Nat.beq i.size 1 then
          some ⟨decide (0 ≤ lo) && (decide (hi ≤ 140737488355328) && decide (hi * i.bytes ≤ 140737488355328)), some (.slx σ.nx l), σ.new ⟨0, fun _ => .junk, e, false, [], [], some l⟩⟩
        else none
      | _ => none)
    | _, _, _, _ => none) else none
  | _, _, _ => none

/-- what is appended: how many elements, its cells -/
def srcCells (σ : Store) : V → Option (Nat × (Nat → V))
  | .sle => some (0, fun _ => .junk)
  | .sl none _ _ _ => some (0, fun _ => .junk)
  | .sl (some a) len _ _ => (σ.blk a.b).map fun k => (len, fun j => k.get (a.o + j))
  | .s x => some (x.size, fun j => .i .u8 (((x[j]?).map fun b => (b.toNat : Int)).getD 0))
  | _ => none
def srcFits (σ : Store) (sz : Nat) : V → Bool
  | .sle => true
  | .sl none _ _ _ => true
  | .sl (some a) len _ _ => match σ.blk a.b with
    | some k => Nat.ble (a.o + len * sz) k.n
    | none => false
  | .s _ => Nat.beq sz 1
  | _ => false
def appRow (n0 : Nat) (g0 : Nat → V) (g1 : Nat → V) : Nat → V := fun j => bif Nat.blt j n0 then g0 j else g1 (j - n0)
def setRo (t : T Ob) (b : Nat) (k : Blk) : T Ob := t.put b (some (.cells ⟨k.n, k.get, k.elem, true, [], k.log, none⟩))
def notInt : TypeDesc → Bool
  | .int _ => false
  | _ => true
def evAppend (t u : TypeId) (s x : V) (σ : Store) : Option Rs :=
  match P.underlying t, P.underlying u, s with
  | some (.slice e), some du, .sl base len cap z => match P.info? e, zeroV P e, srcCells σ x, srcCells σ s with
    | some i, some (sz, _), some (n, g), some (_, g0) =>
      bif notInt du && (Nat.blt 0 sz && (Nat.beq i.size sz && Nat.blt 0 i.bytes)) then
      bif Nat.beq n 0 then some ⟨true, some s, σ⟩ else
      bif Nat.ble (len + n) cap then
        match base with
        | some a => match σ.blk a.b with
          | some k => bif k.ro then none else
            some ⟨srcFits σ sz x && Nat.ble (a.o + (len + n) * sz) k.n, some (.sl (some a) (len + n) cap z), σ.write a.b k (a.o + len * sz) (n * sz) (updN k.get (a.o + len * sz) (n * sz) g)⟩
          | none => none
        | none => none
      else
        match base with
        | none => some ⟨srcFits σ sz x && decide ((len + n) * i.bytes ≤ 140737488355328), some (.sl (some ⟨σ.nx, 0⟩) (len + n) (len + n) sz),
            σ.new ⟨(len + n) * sz, canonIf ((len + n) * sz) (appRow (len * sz) g0 g), e, false, [], [], none⟩⟩
        | some a => match σ.blk a.b with
          | some k => bif k.ro then none else
            bif Nat.beq a.o 0 && (Nat.beq (len * sz) k.n && (Nat.beq z 0 || Nat.beq z sz && Nat.beq k.elem e)) then
              some ⟨srcFits σ sz x && decide ((len + n) * i.bytes ≤ 140737488355328), some (.sl (some ⟨σ.nx, 0⟩) (len + n) (len + n) sz),
                (Store.mk σ.nx (setRo σ.t a.b k) σ.Γ).new ⟨(len + n) * sz, canonIf ((len + n) * sz) (appRow (len * sz) g0 g), e, false, a.b :: k.mates, [], none⟩⟩
            else none
          | none => none
      else none
    | _, _, _, _ => none
  | _, _, _ => none
def evCopy (t : TypeId) (d s : V) (σ : Store) : Option Rs :=
  match P.underlying t, d with
  | some (.slice e), .sl base len _ _ => match P.info? e, srcCells σ s with
    | some i, some (n, g) =>
      let m := Nat.min n len
      match base with
      | none => some ⟨true, some (.i .i64 m), σ⟩
      | some a => match σ.blk a.b with
        | some k => bif k.ro then none else
          some ⟨srcFits σ i.size s && Nat.ble (a.o + m * i.size) k.n, some (.i .i64 m), σ.write a.b k a.o (m * i.size) (updN k.get a.o (m * i.size) g)⟩
        | none => none
    | _, _ => none
  | _, _ => none

def evLen (t : TypeId) (x : V) : Option V :=
  match P.underlying t, x with
  | some .string, .s s => some (.i .i64 s.size)
  | some .string, .symS e => some (.sym .i64 e)
  | some (.array n _), _ => some (.i .i64 n)
  | some (.slice _), .sl _ n _ _ => some (.i .i64 n)
  | some (.slice _), .sle => some (.i .i64 0)
  | _, _ => none

def pureRs (σ : Store) : Option (Bool × V) → Option Rs
  | some (c, v) => some ⟨c, some v, σ⟩
  | none => none
def valRs (σ : Store) : Option V → Option Rs
  | some v => some ⟨true, some v, σ⟩
  | none => none

def isKeyV : TypeDesc → V → Bool
  | .int k, .i k' _ => kindEq k k'
  | .int k, .sym k' _ => kindEq k k'
  | .string, .s _ => true
  | .bool, .bo _ => true
  | _, _ => false
def keyEq : V → V → Option Bool
  | .i k a, .i k' b => bif kindEq k k' then some (decide (a = b)) else none
  | .sym k a, .sym k' b => bif kindEq k k' && SX.same a b then some true else none
  | .s a, .s b => some (strEq a b)
  | .bo a, .bo b => some (a == b)
  | _, _ => none
def findV (k : V) : List Ent → Nat → Option (Option (Nat × V))
  | [], _ => some none
  | e :: es, i => match keyEq k e.key with
    | some b => cond b (some (some (i, e.val))) (findV k es (i + 1))
    | none => none
def simpleKd : TypeDesc → Bool
  | .int _ | .string | .bool => true
  | _ => false
/-- a struct of simple fields as a key -/
def aggKey (key : TypeId) (kd : TypeDesc) : V → Bool
  | .agg n _ => match kd, P.info? key with
    | .struct fs, some i => Nat.beq n i.size && fs.toList.all fun f => Nat.blt f.offset n && (match P.underlying f.type with
      | some d => simpleKd d
      | none => false)
    | _, _ => false
  | _ => false
def sameCells (f g : Nat → V) : Nat → Nat → Bool
  | 0, _ => true
  | n + 1, i => (match keyEq (f i) (g i) with
    | some b => b
    | none => false) && sameCells f g n (i + 1)
def findA (key : TypeId) (n : Nat) (f : Nat → V) : List Ent → Nat → Option (Option (Nat × V))
  | [], _ => some none
  | e :: es, i => match e.key with
    | .agg n' g => bif Nat.beq n n' && (eqT P 10000 key n f g).1 then
        cond (eqT P 10000 key n f g).2 (bif sameCells f g n 0 then some (some (i, e.val)) else none) (findA key n f es (i + 1)) else none
    | _ => none
def findK (key : TypeId) (kd : TypeDesc) (k : V) (es : List Ent) : Option (Option (Nat × V)) :=
  bif isKeyV kd k then findV k es 0 else bif aggKey P key kd k then
    match k with
    | .agg n f => findA P key n f es 0
    | _ => none
  else none
def mapOf (σ : Store) : V → Option (Option (Nat × List Ent × Nat))
  | .mp none => some none
  | .mp (some b) => match σ.one b with
    | some (.mp es cl) => some (some (b, es, cl))
    | _ => none
  | _ => none
def entsOf : Option (Nat × List Ent × Nat) → List Ent
  | none => []
  | some (_, es, _) => es
def zeroVal (t : TypeId) : Option V :=
  match P.info? t with
  | some i => match i.zero with
    | some (.agg _) => (zeroV P t).map fun (n, z) => .agg n (canon n z)
    | some v => ofConst v
    | none => none
  | none => none
def okV (ok : Bool) (v : V) (b : Bool) : V := bif ok then .tup 2 (ofL [v, .bo b]) else v
def mapKd (t : TypeId) : Option (TypeId × TypeDesc × TypeId) :=
  match P.underlying t with
  | some (.map key elem) => (P.underlying key).map fun kd => (key, kd, elem)
  | _ => none
def evLookup (t : TypeId) (x ix : V) (ok : Bool) (σ : Store) : Option Rs :=
  match mapKd P t, mapOf σ x with
  | some (key, kd, elem), some mo => match findK P key kd ix (entsOf mo) with
    | some (some (_, v)) => some ⟨true, some (okV ok v true), σ⟩
    | some none => (zeroVal P elem).map fun v => ⟨true, some (okV ok v false), σ⟩
    | none => none
  | _, _ => none
def modE : List Ent → Nat → V → V → List Ent
  | [], _, _, _ => []
  | e :: l, 0, k, v => ⟨k, v, e.born⟩ :: l
  | e :: l, i + 1, k, v => e :: modE l i k v
def eraseE : List Ent → Nat → List Ent
  | [], _ => []
  | _ :: l, 0 => l
  | e :: l, i + 1 => e :: eraseE l i
def evMapUpdate (t : TypeId) (x k v : V) (σ : Store) : Option Rs :=
  match mapKd P t, mapOf σ x with
  | some (key, kd, _), some (some (b, es, cl)) => match findK P key kd k es with
    | some (some (i, _)) => some ⟨true, none, σ.setOne b (.mp (modE es i k v) cl)⟩
    | some none => some ⟨true, none, σ.setOne b (.mp (es ++ [⟨k, v, cl⟩]) (cl + 1))⟩
    | none => none
  | _, _ => none
def evMakeMap (t : TypeId) (r : Option V) (σ : Store) : Option Rs :=
  match mapKd P t, r with
  | some _, none | some _, some (.i _ _) => some ⟨true, some (.mp (some σ.nx)), σ.newOne (.mp [] 0)⟩
  | _, _ => none
def evRange (t : TypeId) (x : V) (σ : Store) : Option Rs :=
  match mapKd P t, mapOf σ x with
  | some _, some none => some ⟨true, some (.p (some ⟨σ.nx, 0⟩)), σ.newOne (.it none 0 [] 0)⟩
  | some _, some (some (b, _, cl)) => some ⟨true, some (.p (some ⟨σ.nx, 0⟩)), σ.newOne (.it (some b) cl [] cl)⟩
  | _, _ => none
def lastN : List Nat → Option Nat
  | [] => none
  | [a] => some a
  | _ :: l => lastN l
def findBorn (n : Nat) : List Ent → Option Ent
  | [] => none
  | e :: l => bif Nat.beq e.born n then some e else findBorn n l
def evEntry (x : V) (σ : Store) : Option Rs :=
  match x with
  | .p (some a) => bif Nat.beq a.o 0 then
      match σ.one a.b with
      | some (.it (some mb) _ seen st) => match σ.one mb, lastN seen with
        | some (.mp es cl), some stamp => match findBorn stamp es with
          | some e => bif Nat.beq cl st then some ⟨true, some (.tup 2 (ofL [e.key, e.val])), σ⟩ else none
          | none => none
        | _, _ => none
      | _ => none
    else none
  | _ => none
def hasN (l : List Nat) (n : Nat) : Bool := l.any fun m => Nat.beq m n
def cands (since : Nat) (seen : List Nat) (es : List Ent) : List (Option Ent) :=
  let left := es.filter fun e => !hasN seen e.born
  let old := left.filter fun e => Nat.blt e.born since
  let new := left.filter fun e => Nat.ble since e.born
  (bif old.isEmpty then [none] else []) ++ (old ++ new).map some
def allC (f : Option Ent → Prop) : List (Option Ent) → Prop
  | [] => False
  | [c] => f c
  | c :: l => f c ∧ allC f l
def evNext (x : V) (σ : Store) (K : Option V → Store → Prop) : Prop :=
  match x with
  | .p (some a) => cond (Nat.beq a.o 0) (match σ.one a.b with
      | some (.it none _ _ _) => K (some (.tup 1 (ofL [.bo false]))) σ
      | some (.it (some mb) since seen last) => match σ.one mb with
        | some (.mp es clock) => cond (!seen.isEmpty && (!es.isEmpty && es.all fun e => Nat.ble last e.born)) False
            (allC (fun
              | some e => K (some (.tup 3 (ofL [.bo true, e.key, e.val]))) (σ.setOne a.b (.it (some mb) since (seen ++ [e.born]) clock))
              | none => K (some (.tup 1 (ofL [.bo false]))) σ) (cands since seen es))
        | _ => False
      | _ => False) False
  | _ => False
def evDelete (t : TypeId) (x k : V) (σ : Store) : Option Rs :=
  match mapKd P t, mapOf σ x with
  | some (key, kd, _), some mo => match findK P key kd k (entsOf mo) with
    | some r => match mo, r with
      | none, _ => some ⟨true, some (.tup 0 (ofL [])), σ⟩
      | some (b, es, cl), some (i, _) => some ⟨true, some (.tup 0 (ofL [])), σ.setOne b (.mp (eraseE es i) cl)⟩
      | some (b, es, cl), none => some ⟨true, some (.tup 0 (ofL [])), σ.setOne b (.mp es cl)⟩
    | none => none
  | _, _ => none
def evClear (t : TypeId) (x : V) (σ : Store) : Option Rs :=
  match P.underlying t, x with
  | some (.map _ _), .mp none => some ⟨true, some (.tup 0 (ofL [])), σ⟩
  | some (.map _ _), .mp (some b) => match σ.one b with
    | some (.mp _ cl) => some ⟨true, some (.tup 0 (ofL [])), σ.setOne b (.mp [] cl)⟩
    | _ => none
  | some (.slice _), .sl none _ _ _ => some ⟨true, some (.tup 0 (ofL [])), σ⟩
  | some (.slice e), .sl (some a) n _ _ => bif Nat.beq n 0 then some ⟨true, some (.tup 0 (ofL [])), σ⟩ else
    match P.info? e, zeroV P e, σ.blk a.b with
    | some i, some (sz, z), some k => bif k.ro then none else
      bif Nat.beq sz i.size && (Nat.blt 0 sz && Nat.ble (a.o + n * sz) k.n) then
        some ⟨true, some (.tup 0 (ofL [])), σ.write a.b k a.o (n * sz) (updN k.get a.o (n * sz) (repeatV sz z))⟩ else none
    | _, _, _ => none
  | _, _ => none
/-- bytes as a string -/
def byteList (g : Nat → V) : Nat → Nat → Option (List Int)
  | 0, _ => some []
  | n + 1, o => match g o, byteList g n (o + 1) with
    | .i .u8 x, some l => some (x :: l)
    | _, _ => none
def strOf (l : List Int) : ByteArray := l.foldl (fun r n => r.push (UInt8.ofNat n.toNat)) ByteArray.empty
def isCvt (op : Op) : Bool := match op with
  | .convert s d _ => match P.underlying s, P.underlying d with
    | some (.slice _), some .string => true
    | _, _ => false
  | _ => false
def evCvt (src dst : TypeId) (x : V) (σ : Store) : Option Rs :=
  match P.underlying src, P.underlying dst with
  | some (.slice e), some .string => match P.underlying e, x with
    | some (.int .u8), .sl none _ _ _ => some ⟨true, some (.s .empty), σ⟩
    | some (.int .u8), .sl (some a) n _ _ => match σ.blk a.b with
      | some k => bif Nat.ble (a.o + n) k.n then (byteList k.get n a.o).map fun l => ⟨true, some (.s (strOf l)), σ⟩ else none
      | none => none
    | some (.int .u8), .slx b e' => match σ.blk b with
      | some k => match k.z with
        | some e'' => bif SX.same e' e'' then some ⟨true, some (.symS e'), σ⟩ else none
        | none => none
      | none => none
    | _, _ => none
  | _, _ => valRs σ (evConvert P src dst x)

def evBuiltin (b : Builtin) (ts : List TypeId) (args : List V) (σ : Store) : Option Rs :=
  match b, ts, args with
  | .len, t :: _, [x] => valRs σ (evLen P t x)
  | .append, t :: u :: _, [s, x] => evAppend P t u s x σ
  | .copy, t :: _, [d, s] => evCopy P t d s σ
  | .max, _, [.i k a, .i _ b] => some ⟨true, some (.i k (bif decide (b > a) then b else a)), σ⟩
  | .min, _, [.i k a, .i _ b] => some ⟨true, some (.i k (bif decide (b < a) then b else a)), σ⟩
  | .delete, t :: _, [x, k] => evDelete P t x k σ
  | .clear, t :: _, [x] => evClear P t x σ
  | _, _, _ => none

/-- an operation that calls no Go function -/
def evOp (ρ : Operand → Option V) (σ : Store) : Op → Option Rs
  | .move x | .assign x => valRs σ (ρ x)
  | .pick c a b => match ρ c with
    | some (.bo true) => valRs σ (ρ a)
    | some (.bo false) => valRs σ (ρ b)
    | _ => none
  | .alloc t => match zeroV P t with
    | some (n, z) => some ⟨true, some (.p (some ⟨σ.nx, 0⟩)), σ.new ⟨n, canon n z, t, false, [], [], none⟩⟩
    | none => none
  | .box t x => match ρ x with
    | some v => bif Nat.blt 0 v.size then some ⟨true, some (.p (some ⟨σ.nx, 0⟩)), σ.new ⟨v.size, canon v.size v.cell, t, false, [], [], none⟩⟩ else none
    | none => none
  | .build t parts => match opdParts ρ parts.toList with
    | some ps => valRs σ (evBuild P t ps)
    | none => none
  | .buildSlice t len parts => match opdParts ρ parts.toList with
    | some ps => evBuildSlice P t len ps σ
    | none => none
  | .load t a => match ρ a with
    | some a => evLoad P t a σ
    | none => none
  | .store t a x => match ρ a, ρ x with
    | some a, some x => evStore P t a x σ
    | _, _ => none
  | .nilCheck x => match ρ x with
    | some (.p (some a)) => some ⟨true, some (.p (some a)), σ⟩
    | some (.fn (.func f) n g) => some ⟨true, some (.fn (.func f) n g), σ⟩
    | _ => none
  | .binOp op t x y _ => match ρ x, ρ y with
    | some x, some y => pureRs σ (evBin P op t x y)
    | _, _ => none
  | .unOp op _ x => match ρ x with
    | some x => valRs σ (evUn op x)
    | none => none
  | .convert src dst x => match ρ x with
    | some x => evCvt P src dst x σ
    | none => none
  | .makeMap t r => match opdO ρ r with
    | some r => evMakeMap P t r σ
    | none => none
  | .lookup t x ix ok => match ρ x, ρ ix with
    | some x, some ix => evLookup P t x ix ok σ
    | _, _ => none
  | .mapUpdate t x k v | .insert t x k v => match ρ x, ρ k, ρ v with
    | some x, some k, some v => evMapUpdate P t x k v σ
    | _, _, _ => none
  | .range t x => match ρ x with
    | some x => evRange P t x σ
    | none => none
  | .entry x => match ρ x with
    | some x => evEntry x σ
    | none => none
  | .makeFunc f first cap => bif first.isEmpty then
      match opds ρ cap.toList with
      | some l => some ⟨true, some (.fn f l.length (ofL l)), σ⟩
      | none => none
    else none
  | .makeSlice t l c => match ρ l, ρ c with
    | some l, some c => evMakeSlice P t l c σ
    | _, _ => none
  | .slice t x lo hi mx => match mx, ρ x, opdO ρ lo, opdO ρ hi with
    | none, some x, some lo, some hi => pureRs σ (evSlice P t x lo hi)
    | _, _, _, _ => none
  | .fieldAddr t x f => match ρ x with
    | some x => valRs σ (evFieldAddr P t x f)
    | none => none
  | .field t x f => match ρ x with
    | some x => pureRs σ (evField P t x f)
    | none => none
  | .indexAddr t x ix => match ρ x, ρ ix with
    | some x, some ix => pureRs σ (evIndexAddr P t x ix)
    | _, _ => none
  | .index t x ix => match ρ x, ρ ix with
    | some x, some ix => pureRs σ (evIndex P t x ix)
    | _, _ => none
  | .extract t ix => match ρ t with
    | some (.tup n f) => bif Nat.blt ix n then some ⟨true, some (f ix), σ⟩ else none
    | _ => none
  | _ => none

inductive Ex where
  | normal
  | exit (id : Nat)
  | ret

/-- what a call comes to, told to who goes on -/
abbrev Cl := FuncId → List V → Store → (V → Store → Prop) → Prop
/-- what stands for calls of some functions -/
abbrev Sums := FuncId → Option (List V → Store → (V → Store → Prop) → Prop)

def Fr.put (fr : Fr) (d : Option Tmp) (v : Option V) : Option Fr :=
  match d with
  | none => some fr
  | some d => bif Nat.blt d fr.nt then some ⟨fr.nt, fr.t.put d (some (v.getD .junk))⟩ else none

/-- the target of a call: the function, its arguments -/
def target (ρ : Operand → Option V) (c : Call) : Option (FuncId × List V) :=
  match c.callee with
  | .value f => match ρ f, opds ρ c.args.toList with
    | some (.fn (.func f) n g), some l => some (f, l ++ tab g n 0)
    | _, _ => none
  | _ => none

def putK (fr : Fr) (d : Option Tmp) (v : Option V) (K : Fr → Prop) : Prop :=
  match fr.put d v with
  | some fr => K fr
  | none => False

def rsK (r : Option Rs) (K : Option V → Store → Prop) : Prop :=
  match r with
  | some rs => cond rs.c (K rs.v rs.σ) False
  | none => False

/-- functions with a Go body -/
def enters (f : FuncId) : Bool :=
  match P.funcs[f]? with
  | some fn => fn.body.isSome && !(fn.name == "runtime.NumGoroutine")
  | none => false
/-- functions without one: what is known of them -/
abbrev Xt := FuncId → List V → Store → Option Rs
variable (X : Xt)

/-- one operation, wanted: its value (none: nothing), the store -/
def evOper (call : Cl) (o : Oper) (ρ : Operand → Option V) (σ : Store) (K : Option V → Store → Prop) : Prop :=
  match o.op with
  | .call c => match c.callee with
    | .builtin b => match opds ρ c.args.toList with
      | some l => rsK (evBuiltin P b c.argTypes.toList l σ) K
      | none => False
    | _ => match target ρ c with
      | some (f, l) => cond (enters P f) (call f l σ fun v σ => K (some v) σ) (rsK (X f l σ) K)
      | none => False
  | .pick c a b => match ρ c with
    | some (.bo x) => cond x (match ρ a with
        | some v => K (some v) σ
        | none => False) (match ρ b with
        | some v => K (some v) σ
        | none => False)
    | _ => False
  | .next x isString => match isString, ρ x with
    | false, some x => evNext x σ K
    | _, _ => False
  | op => rsK (evOp P ρ σ op) K
/-- the same, in a frame -/
def evStep (call : Cl) (o : Oper) (fr : Fr) (σ : Store) (K : Fr → Store → Prop) : Prop :=
  evOper P X call o fr.opd σ fun v σ => putK fr o.dst v fun fr => K fr σ

def yieldedV (ops : List Oper) (fr : Fr) (j : Nat) : Option V := ((ops[j]?).bind (·.dst)).bind fr.t.get

/-- an operation, wanted or not -/
def evGuard (ops : List Oper) (o : Oper) (fr : Fr) (yes : Prop) (no : Fr → Prop) : Prop :=
  match o.guard with
  | none => yes
  | some (j, want) => match yieldedV ops fr j with
    | some (.bo x) => cond (x == want) yes (putK fr o.dst none no)
    | some .junk => putK fr o.dst none no
    | _ => False

/-- what is known tells '==' or '<' -/
def tellX (b : BX) : List (BX × Bool) → Option Bool
  | [] => none
  | (b', r) :: l => match b, b' with
    | .eq x y, .eq x' y' => bif (SX.same x x' && SX.same y y') || (SX.same x y' && SX.same y x') then some r else tellX b l
    | .lt x y, .lt x' y' => bif SX.same x x' && SX.same y y' then some r else tellX b l
    | _, _ => tellX b l
def rangeX (e : SX) : List (SX × Int × Int) → Option (Int × Int)
  | [] => none
  | (e', lo, hi) :: l => bif SX.same e e' then some (lo, hi) else rangeX e l
def Store.tell (σ : Store) (b : BX) (r : Bool) : Store := ⟨σ.nx, σ.t, ⟨(b, r) :: σ.Γ.l, σ.Γ.r⟩⟩
/-- of all numbers from one on -/
def allZ (f : Int → Prop) : Nat → Int → Prop
  | 0, _ => True
  | 1, lo => f lo
  | n + 2, lo => f lo ∧ allZ f (n + 1) (lo + 1)
/-- both ways, where it isn't known which -/
def forkB (b : BX) (σ : Store) (K : Bool → Store → Prop) : Prop :=
  match tellX b σ.Γ.l with
  | some r => K r σ
  | none => K true (σ.tell b true) ∧ K false (σ.tell b false)
/-- a value known by its name, told apart -/
def concK (v : Option V) (σ : Store) (K : Option V → Store → Prop) : Prop :=
  match v with
  | some (.symb b neg) => forkB b σ fun r σ => K (some (.bo (r != neg))) σ
  | some (.sym k e) => match rangeX e σ.Γ.r with
    | some (lo, hi) => allZ (fun n => K (some (.i k n)) (σ.tell (.eq e (.c n)) true)) (hi + 1 - lo).toNat lo
    | none => K (some (.sym k e)) σ
  | v => K v σ

def evOps (call : Cl) (ops : List Oper) : List Oper → Fr → Store → (Fr → Store → Prop) → Prop
  | [], fr, σ, K => K fr σ
  | o :: l, fr, σ, K =>
    evGuard ops o fr (evOper P X call o fr.opd σ fun v σ => concK v σ fun v σ => putK fr o.dst v fun fr => evOps call ops l fr σ K)
      fun fr => evOps call ops l fr σ K

def bindsAny (e : Edge) : Bool := match e.ground with
  | .textOnly _ => false
  | .gcOnly _ => false
  | _ => true
def predsOf (o : Oper) : List Nat := o.after.toList.filterMap fun e => bif bindsAny e then some e.on else none
def maskOf (masks : List Nat) : List Nat → Nat
  | [] => 0
  | d :: l => (1 <<< d) ||| (masks.getD d 0 ||| maskOf masks l)
def masksOf : List Oper → List Nat → List Nat
  | [], acc => acc
  | o :: l, acc => masksOf l (acc ++ [maskOf acc (predsOf o)])

inductive Cls where
  | eff | mem | load | pure
def clsOf : Op → Cls
  | .call c => match c.callee with
    | .builtin .len | .builtin .min | .builtin .max => .pure
    | _ => .eff
  | .store .. | .mapUpdate .. | .insert .. | .mapEntry .. | .entryStore .. | .lookup .. | .next .. | .range .. | .entry .. | .makeMap .. => .eff
  | .alloc _ | .box .. | .buildSlice .. | .makeSlice .. => .mem
  | .load .. => .load
  | .move _ | .assign _ | .pick .. | .build .. | .nilCheck _ | .binOp .. | .unOp .. | .makeFunc .. | .slice .. | .fieldAddr .. | .field .. | .indexAddr .. | .index .. | .extract .. => .pure
  | .convert _ _ _ => .pure
  | _ => .eff
/-- the same, with what the types tell -/
def clsP (op : Op) : Cls := bif isCvt P op then .eff else clsOf op
def isEff (o : Oper) : Bool := match clsP P o.op with
  | .eff => true
  | _ => false
def isMemOp (o : Oper) : Bool := match clsOf o.op with
  | .mem => true
  | _ => false
/-- the effects' places, in the order of the text -/
def effs : List Oper → Nat → List Nat
  | [], _ => []
  | o :: l, i => bif isEff P o then i :: effs l (i + 1) else effs l (i + 1)
def level (masks : List Nat) (es : List Nat) (i : Nat) : Nat := es.countP fun e => (masks.getD i 0).testBit e
/-- operations that are no effects, of a level -/
def atLevel (masks : List Nat) (es : List Nat) (p : Nat) : List Oper → Nat → List Nat
  | [], _ => []
  | o :: l, i => bif !isEff P o && Nat.beq (level masks es i) p then i :: atLevel masks es p l (i + 1) else atLevel masks es p l (i + 1)
/-- the order in which a region is reckoned: each operation as early as may be -/
def orderFrom (ops : List Oper) (masks es : List Nat) : List Nat → Nat → List Nat
  | [], p => atLevel P masks es p ops 0
  | e :: l, p => atLevel P masks es p ops 0 ++ e :: orderFrom ops masks es l (p + 1)
def memNo : List Oper → Nat → Nat
  | _, 0 => 0
  | [], _ => 0
  | o :: l, i + 1 => bif isMemOp o then memNo l i + 1 else memNo l i
def looks (ops : List Oper) (o : Oper) : List Tmp :=
  (o.op.operands.toList.filterMap fun | .tmp t => some t | _ => none) ++
  (match o.guard with
   | some (g, _) => ((ops[g]?).bind (·.dst)).toList
   | none => [])
/-- temporaries: each written once, and not beside one who looks at it -/
def tmpsApart (ops : List Oper) (masks : List Nat) (i : Nat) (d : Tmp) : List Oper → Nat → Bool
  | [], _ => true
  | o :: l, j => (Nat.beq i j || (!(o.dst == some d) && (!(looks ops o).contains d || ((masks.getD j 0).testBit i || (masks.getD i 0).testBit j)))) && tmpsApart ops masks i d l (j + 1)
def tmpsOk (ops : List Oper) (masks : List Nat) : List Oper → Nat → Bool
  | [], _ => true
  | o :: l, i => (match o.dst with
    | some d => tmpsApart ops masks i d ops 0 && !(looks ops o).contains d
    | none => true) && tmpsOk ops masks l (i + 1)
/-- edges lead back -/
def backOk : List Oper → Nat → Bool
  | [], _ => true
  | o :: l, i => (predsOf o).all (fun d => Nat.blt d i) && backOk l (i + 1)
/-- an order: each once, none ahead of what it needs, and what comes behind an effect needs it -/
def ordOk (ops : List Oper) (masks : List Nat) : List Nat → Nat → Bool
  | [], seen => Nat.beq seen (2 ^ ops.length - 1)
  | i :: l, seen => match ops[i]? with
    | some o => !seen.testBit i && (Nat.beq (masks.getD i 0 &&& seen) (masks.getD i 0) && ((!isEff P o || l.all fun j => (masks.getD j 0).testBit i) && ordOk ops masks l (seen ||| (1 <<< i))))
    | none => false

structure Pend where
  at_ : Nat
  name : Nat
  blk : Blk
structure Opn where
  at_ : Nat
  t : TypeId
  a : V
  v : V
def bringOne (σ : Store) (p : Pend) : Store := ⟨σ.nx, σ.t.put p.name (some (.cells p.blk)), σ.Γ⟩
def bring (σ : Store) : List Pend → Store
  | [] => σ
  | p :: l => bringOne (bring σ l) p

/-- cells of a block that nothing was written to since -/
def untouched (σ σ' : Store) (a : Pl) (n : Nat) : Bool :=
  match σ.blk a.b, σ'.blk a.b with
  | some k, some k' => (k'.log.take (k'.log.length - k.log.length)).all fun x => Nat.ble (x.1 + x.2) a.o || Nat.ble (a.o + n) x.1
  | _, _ => false
def untouchedV (σ σ' : Store) (t : TypeId) (a : V) : Bool :=
  match a, P.info? t with
  | .p (some a), some i => untouched σ σ' a i.size
  | _, _ => false
def opensOk (m : Nat) (σ σ' : Store) : List Opn → Bool
  | [] => true
  | x :: l => (m.testBit x.at_ || untouchedV P σ σ' x.t x.a) && opensOk m σ σ' l

/-- a new block: what is laid in it, the pointer's value -/
def memV (ρ : Operand → Option V) (name : Nat) : Op → Option (Bool × Blk × V)
  | .alloc t => match zeroV P t with
    | some (n, z) => some (true, ⟨n, canon n z, t, false, [], [], none⟩, .p (some ⟨name, 0⟩))
    | none => none
  | .box t x => match ρ x with
    | some v => bif Nat.blt 0 v.size then some (true, ⟨v.size, canon v.size v.cell, t, false, [], [], none⟩, .p (some ⟨name, 0⟩)) else none
    | none => none
  | .buildSlice t len parts => match opdParts ρ parts.toList with
    | some ps => match evBuildSlice P t len ps ⟨name, .e, ⟨[], []⟩⟩ with
      | some ⟨c, some v, σ⟩ => (σ.blk name).map fun k => (c, k, v)
      | _ => none
    | none => none
  | .makeSlice t l c => match ρ l, ρ c with
    | some l, some c => match evMakeSlice P t l c ⟨name, .e, ⟨[], []⟩⟩ with
      | some ⟨c, some v, σ⟩ => (σ.blk name).map fun k => (c, k, v)
      | _ => none
    | _, _ => none
  | _ => none

structure DSt where
  fr : Fr
  σ : Store
  pend : List Pend
  opens : List Opn

def evD (call : Cl) (ops : List Oper) (masks : List Nat) (base : Nat) : List Nat → DSt → (Fr → Store → Prop) → Prop
  | [], d, K => K d.fr (bring d.σ d.pend)
  | i :: rest, d, K => match ops[i]? with
    | none => False
    | some o =>
      evGuard ops o d.fr
        (match clsP P o.op with
         | .eff =>
           let m := masks.getD i 0
           let σ1 := bring d.σ (d.pend.filter fun p => m.testBit p.at_)
           evStep P X call o d.fr σ1 fun fr σ2 =>
             cond (opensOk P m σ1 σ2 d.opens)
               (evD call ops masks base rest ⟨fr, σ2, d.pend.filter (fun p => !m.testBit p.at_), d.opens.filter fun x => !m.testBit x.at_⟩ K) False
         | .mem => match memV P d.fr.opd (base + memNo ops i) o.op with
           | some (c, k, v) => putK d.fr o.dst (some v) fun fr => cond c (evD call ops masks base rest ⟨fr, d.σ, ⟨i, base + memNo ops i, k⟩ :: d.pend, d.opens⟩ K) False
           | none => False
         | .load => match o.op with
           | .load t a => match d.fr.opd a with
             | some a => match evLoad P t a d.σ with
               | some rs => putK d.fr o.dst rs.v fun fr => cond rs.c (evD call ops masks base rest ⟨fr, d.σ, d.pend, ⟨i, t, a, rs.v.getD .junk⟩ :: d.opens⟩ K) False
               | none => False
             | none => False
           | _ => False
         | .pure => evStep P X call o d.fr d.σ fun fr _ => evD call ops masks base rest ⟨fr, d.σ, d.pend, d.opens⟩ K)
        (fun fr => evD call ops masks base rest ⟨fr, d.σ, d.pend, d.opens⟩ K)

def evRegionD (call : Cl) (ops : List Oper) (fr : Fr) (σ : Store) (K : Fr → Store → Prop) : Prop :=
  let masks := masksOf ops []
  let es := effs P ops 0
  cond (backOk ops 0 && (ordOk P ops masks (orderFrom P ops masks es es 0) 0 && tmpsOk ops masks ops 0))
    (evD P X call ops masks σ.nx (orderFrom P ops masks es es 0) ⟨fr, ⟨σ.nx + memNo ops ops.length, σ.t, σ.Γ⟩, [], []⟩ K) False

def loopN : Nat → ((Ex → Fr → Store → Prop) → Fr → Store → Prop) → Fr → Store → (Ex → Fr → Store → Prop) → Prop
  | 0, _, _, _, _ => False
  | n + 1, body, fr, σ, K => body (fun e fr σ => match e with
    | .normal => loopN n body fr σ K
    | e => K e fr σ) fr σ

def evCode (L : Nat) (call : Cl) : Code → Fr → Store → (Ex → Fr → Store → Prop) → Prop
  | .skip, fr, σ, K => K .normal fr σ
  | .label _, fr, σ, K => K .normal fr σ
  | .seq a b, fr, σ, K => evCode L call a fr σ fun e fr σ => match e with
    | .normal => evCode L call b fr σ K
    | e => K e fr σ
  | .cond c a b, fr, σ, K => match fr.opd c with
    | some (.bo x) => cond x (evCode L call a fr σ K) (evCode L call b fr σ K)
    | some (.symb e neg) => forkB e σ fun r σ => cond (r != neg) (evCode L call a fr σ K) (evCode L call b fr σ K)
    | _ => False
  | .block id c, fr, σ, K => evCode L call c fr σ fun e fr σ => match e with
    | .exit id' => bif Nat.beq id' id then K .normal fr σ else K (.exit id') fr σ
    | e => K e fr σ
  | .loop c, fr, σ, K => loopN L (fun K fr σ => evCode L call c fr σ K) fr σ K
  | .scope c, fr, σ, K => evCode L call c fr σ K
  | .exit id, fr, σ, K => K (.exit id) fr σ
  | .ret, fr, σ, K => K .ret fr σ
  | .region _ ops draw, fr, σ, K =>
    cond draw (evRegionD P X call ops.toList fr σ fun fr σ => K .normal fr σ) (evOps P X call ops.toList ops.toList fr σ fun fr σ => K .normal fr σ)
  | _, _, _, _ => False

def argFr : List V → Nat → W V → W V
  | [], _, t => t
  | v :: l, i, t => argFr l (i + 1) (t.put i (some v))

def resV (fr : Fr) (σ : Store) : List ResultVar → Option (Bool × List V)
  | [] => some (true, [])
  | .tmp t :: l => match fr.t.get t, resV fr σ l with
    | some v, some (c, r) => some (c, v :: r)
    | _, _ => none
  | .cell a ty :: l => match fr.t.get a with
    | some a => match evLoad P ty a σ, resV fr σ l with
      | some rs, some (c, r) => match rs.v with
        | some v => some (rs.c && c, v :: r)
        | none => none
      | _, _ => none
    | none => none
def results1 : List V → V
  | [v] => v
  | l => .tup l.length (ofL l)

/-- how a body ends -/
def endK (fn : Func) (K : V → Store → Prop) : Ex → Fr → Store → Prop
  | .exit _, _, _ => False
  | _, fr, σ => match resV P fr σ fn.results.toList with
    | some (c, l) => cond c (K (results1 l) σ) False
    | none => False

/-- a function's body -/
def evBody (L : Nat) (call : Cl) (f : FuncId) (args : List V) (σ : Store) (K : V → Store → Prop) : Prop :=
  match P.funcs[f]? with
  | some fn => match fn.body with
    | some c => bif Nat.ble args.length fn.ntmps then evCode P X L call c ⟨fn.ntmps, argFr args 0 .e⟩ σ (endK P fn K) else False
    | none => False
  | none => False

def evFn (S : Sums) (L : Nat) : Nat → Cl
  | 0, _, _, _, _ => False
  | d + 1, f, args, σ, K => match S f with
    | some T => T args σ K
    | none => evBody P X L (evFn S L d) f args σ K

end Go.Ev
