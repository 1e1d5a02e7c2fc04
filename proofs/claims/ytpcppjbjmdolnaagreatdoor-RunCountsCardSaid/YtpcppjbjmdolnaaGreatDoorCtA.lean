/- The evaluator: an abstract machine for the model's structured code. Own block numbers, no tape: what the tape decides is left open. -/
import GoSem.Claims
import Derived.Calls
import Derived.Defers
namespace Ct
open Go

/-! ## Symbolic numbers -/
inductive XOp where
  | quo | rem | and | or | xor | shl | shr
  deriving DecidableEq, Inhabited

inductive SI where
  | var (i : Nat)
  | lit (n : Int)
  | add (k : IntKind) (a b : SI)
  | sub (k : IntKind) (a b : SI)
  | mul (k : IntKind) (a b : SI)
  | conv (k : IntKind) (a : SI)
  | bin (o : XOp) (k : IntKind) (a b : SI)
  deriving DecidableEq, Inhabited

inductive CmpOp where
  | eq | ne | lt | le | gt | ge
  deriving DecidableEq, Inhabited

inductive SB where
  | var (i : Nat)
  | cmp (c : CmpOp) (a b : SI)
  | not (b : SB)
  | lit (b : Bool)
  | and (a b : SB)
  | iff (a b : SB)
  deriving DecidableEq, Inhabited

def cmpI (c : CmpOp) (a b : Int) : Bool :=
  match c with
  | .eq => a == b
  | .ne => a != b
  | .lt => a < b
  | .le => a ≤ b
  | .gt => a > b
  | .ge => a ≥ b

def XOp.den (o : XOp) (k : IntKind) (a b : Int) : Int :=
  match o with
  | .quo => k.wrap (Int.tdiv a b)
  | .rem => Int.tmod a b
  | .and => k.wrap (BitVec.ofInt k.bits a &&& BitVec.ofInt k.bits b).toNat
  | .or => k.wrap (BitVec.ofInt k.bits a ||| BitVec.ofInt k.bits b).toNat
  | .xor => k.wrap (BitVec.ofInt k.bits a ^^^ BitVec.ofInt k.bits b).toNat
  | .shl => k.wrap (a * (2 ^ (min b.toNat k.bits) : Nat))
  | .shr => Int.fdiv a (2 ^ (min b.toNat k.bits) : Nat)

def SI.den (ρ : Nat → Int) : SI → Int
  | .var i => ρ i
  | .lit n => n
  | .add k a b => k.wrap (a.den ρ + b.den ρ)
  | .sub k a b => k.wrap (a.den ρ - b.den ρ)
  | .mul k a b => k.wrap (a.den ρ * b.den ρ)
  | .conv k a => k.wrap (a.den ρ)
  | .bin o k a b => o.den k (a.den ρ) (b.den ρ)

def SB.den (ρ : Nat → Int) (β : Nat → Bool) : SB → Bool
  | .var i => β i
  | .cmp c a b => cmpI c (a.den ρ) (b.den ρ)
  | .not b => !(b.den ρ β)
  | .lit b => b
  | .and a b => a.den ρ β && b.den ρ β
  | .iff a b => a.den ρ β == b.den ρ β

/-! ## Values -/
inductive AV where
  | int (k : IntKind) (n : Int)
  | bool (b : Bool)
  | str (n x : Nat)
  | nilp
  | ptr (i o : Nat)
  | nils
  | slice (i o n : Nat) (c : Option Nat)
  | nilm
  | map (i : Nat)
  | nilf
  | fn (f : Nat) (caps : List AV)
  | nili
  | iface (t : Nat) (v : AV)
  | agg (l : List AV)
  | tup (l : List AV)
  | sint (k : IntKind) (e : SI)
  | sbool (e : SB)
  | sslice (i o : Nat) (n : SI)
  | emp                            -- a slice of no items, not nil, wherever it lies
  deriving Inhabited

def AV.undef : AV := .tup []

/-- The cells that a value takes. -/
def AV.cells : AV → List AV
  | .agg l => l
  | v => [v]

/-- The cells of a value that may lie in memory. -/
def cellsO : AV → Option (List AV)
  | .agg l => some l
  | .tup _ => none
  | v => some [v]

def oneA : AV → Bool
  | .agg _ => false
  | .tup _ => false
  | _ => true

/-! ## Tries -/
inductive Tr (α : Type) where
  | leaf
  | node (v : Option α) (l r : Tr α)
  deriving Inhabited

namespace Tr
variable {α : Type}
def get : Tr α → Nat → Option α
  | .leaf, _ => none
  | .node v l r, k => match k with
    | 0 => v
    | k + 1 => match Nat.beq (Nat.mod k 2) 0 with
      | true => l.get (Nat.div k 2)
      | false => r.get (Nat.div k 2)

def single : Nat → Nat → Option α → Tr α
  | 0, _, _ => .leaf
  | fuel + 1, k, x => match k with
    | 0 => .node x .leaf .leaf
    | k + 1 => match Nat.beq (Nat.mod k 2) 0 with
      | true => .node none (single fuel (Nat.div k 2) x) .leaf
      | false => .node none .leaf (single fuel (Nat.div k 2) x)

def set : Tr α → Nat → Option α → Tr α
  | .leaf, k, x => single (Nat.succ k) k x
  | .node v l r, k, x => match k with
    | 0 => .node x l r
    | k + 1 => match Nat.beq (Nat.mod k 2) 0 with
      | true => .node v (l.set (Nat.div k 2) x) r
      | false => .node v l (r.set (Nat.div k 2) x)

/-- Values in a row, from a key on. -/
def setAll (t : Tr α) : Nat → List α → Tr α
  | _, [] => t
  | k, x :: xs => (t.set k (some x)).setAll (Nat.succ k) xs

def getAll (t : Tr α) : Nat → Nat → Option (List α)
  | _, 0 => some []
  | k, n + 1 => match t.get k with
    | none => none
    | some x => match t.getAll (Nat.succ k) n with
      | none => none
      | some xs => some (x :: xs)
end Tr

/-- The globals that are known: the first so many. -/
abbrev gN : Nat := 2
/-- How many items the known table has. -/
abbrev tN : Nat := 256

/-! ## Objects, states -/
inductive AO where
  | cells (n g e : Nat) (t : Tr AV)      -- n cells are known; g: 0, or an item's size, if there may be room behind them; then e: the items' type
  | map (es : List (AV × AV × Nat)) (clock : Nat)
  | umap (es : List (AV × AV))              -- entries in whatever order
  | siter (n x pos : Nat)
  | miter (m : Option Nat) (since : Nat) (seen : List Nat) (stepped : Nat)
  deriving Inhabited

structure ADefer where
  f : Nat
  args : List AV
  deriving Inhabited

structure St where
  t : Tr AV
  d : List ADefer
  h : Tr AO
  nx : Nat
  pc : List (SB × Bool)
  deriving Inhabited

/-- What an evaluation comes to. -/
inductive R (α : Type) where
  | fail (why : Nat)
  | done (a : α)
  | br (c : SB) (t f : R α)
  | both (a b : R α)

/-! ## The code, its types resolved -/
inductive AOp where
  | tmp (t : Nat)
  | val (v : AV)
  deriving Inhabited

/-- Cells that are compared. -/
inductive CK where
  | int | bool | str
  deriving DecidableEq, Inhabited

/-- A key: one cell, or a struct's. -/
inductive KK where
  | scal (c : CK)
  | agg (l : List CK)
  deriving Inhabited

inductive EqK where
  | bool | ptr | slice | map | func
  | iface (bare : Bool)
  | agg (l : List CK)
  | bad
  deriving Inhabited

inductive AI where
  | move (x : AOp)
  | pick (c a b : AOp)
  | alloc (z : List AV)
  | box (x : AOp)
  | build (z : List AV) (parts : List (Nat × Nat × AOp))
  | buildSlice (z : List AV) (n : Nat) (parts : List (Nat × Nat × AOp))
  | load (agg : Bool) (size : Nat) (a : AOp)
  | store (size : Nat) (a x : AOp)
  | nilCheck (x : AOp)
  | bin (op : BinOp) (k : EqK) (x y : AOp)
  | un (op : UnOp) (x : AOp)
  | convInt (k : IntKind) (x : AOp)
  | convSame (x : AOp)
  | intToStr (x : AOp)
  | strToBytes (x : AOp)
  | mkIface (t : Nat) (x : AOp)
  | assertTo (t : Nat) (zero : AV) (ok : Bool) (x : AOp)
  | mkFunc (f : Nat) (first caps : List AOp)
  | mkMap
  | mkSlice (z : List AV) (size bytes : Nat) (l c : AOp)
  | sliceStr (x : AOp) (l h : Option AOp)
  | sliceSl (size : Nat) (x : AOp) (l h m : Option AOp)
  | sliceArr (size n : Nat) (x : AOp) (l h m : Option AOp)
  | fieldAddr (off : Nat) (x : AOp)
  | field (agg : Bool) (size off : Nat) (x : AOp)
  | indexSl (size : Nat) (x i : AOp)
  | indexArrAddr (size n : Nat) (x i : AOp)
  | indexStr (x i : AOp)
  | indexArr (agg : Bool) (size n : Nat) (x i : AOp)
  | lookup (kk : KK) (zero : AV) (ok : Bool) (m k : AOp)
  | mapUpd (kk : KK) (m k v : AOp)
  | mapEntry (kk : KK) (zero : AV) (m k : AOp)
  | entryStore (m s v : AOp)
  | rangeStr (x : AOp)
  | rangeMap (x : AOp)
  | nextStr (x : AOp)
  | nextMap (x : AOp)
  | entry (x : AOp)
  | extract (x : AOp) (i : Nat)
  | lenStr (x : AOp)
  | lenSl (x : AOp)
  | lenMap (x : AOp)
  | lenArr (n : Nat)
  | append (size bytes e : Nat) (s x : AOp)
  | copy (size : Nat) (a b : AOp)
  | maxi (x : AOp) (xs : List AOp)
  | mini (x : AOp) (xs : List AOp)
  | delete (kk : KK) (m k : AOp)
  | callF (f : Nat) (args : List AOp)
  | callV (f : AOp) (args : List AOp)
  | recover
  | deferF (f : AOp) (args : List AOp)
  | bad (why : Nat)
  deriving Inhabited

structure AOper where
  dst : Option Nat
  op : AI
  guard : Option (Nat × Bool)     -- the slot that is asked, and how
  deriving Inhabited

/-- An operation in a region that draws: its mark; its class (0 reckons or reads, 1 makes, 2 writes); of one that writes: the reads that are looked at again behind it, the makes that are laid in ahead of it. -/
structure DOp where
  o : AOper
  mark : Nat
  cls : Nat
  re : List Nat
  mg : List Nat
  deriving Inhabited

inductive ACode where
  | skip
  | region (ops : List AOper)
  | draw (ops : List DOp)
  | seq (a b : ACode)
  | cond (c : AOp) (a b : ACode)
  | block (id : Nat) (c : ACode)
  | loop (c : ACode)
  | exit (id : Nat)
  | ret
  | bad (why : Nat)
  deriving Inhabited

inductive ARes where
  | tmp (t : Nat)
  | cell (a : Nat) (agg : Bool) (size : Nat)
  deriving Inhabited

structure AFn where
  ntmps : Nat
  body : ACode
  res : List ARes
  deriving Inhabited

inductive AExit where
  | normal
  | exit (id : Nat)
  | ret
  deriving Inhabited
end Ct
