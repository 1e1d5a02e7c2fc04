/- The evaluator: its operations, its code, its calls. -/
import Derived.Test.YtpcppjbjmdolnaaGreatDoorCtA
import Derived.Orders
namespace Ct
open Go

/-! ## Numbers, kernel-quick -/
def ible : Int → Int → Bool
  | .ofNat a, .ofNat b => Nat.ble a b
  | .ofNat _, .negSucc _ => false
  | .negSucc _, .ofNat _ => true
  | .negSucc a, .negSucc b => Nat.ble b a

def ibeq : Int → Int → Bool
  | .ofNat a, .ofNat b => Nat.beq a b
  | .negSucc a, .negSucc b => Nat.beq a b
  | _, _ => false

def ilt (a b : Int) : Bool := (ible b a).not

/-- The largest number of a kind. -/
def topN : IntKind → Nat
  | .i8 => 127 | .i16 => 32767 | .i32 => 2147483647 | .i64 => 9223372036854775807
  | .u8 => 255 | .u16 => 65535 | .u32 => 4294967295 | .u64 => 18446744073709551615

def sgn : IntKind → Bool
  | .i8 | .i16 | .i32 | .i64 => true
  | _ => false

def wrapF (k : IntKind) (n : Int) : Int :=
  match n with
  | .ofNat m => match Nat.ble m (topN k) with
    | true => .ofNat m
    | false => k.wrap (.ofNat m)
  | .negSucc m => match sgn k with
    | true => match Nat.ble m (topN k) with
      | true => .negSucc m
      | false => k.wrap (.negSucc m)
    | false => k.wrap (.negSucc m)

def ikBeq : IntKind → IntKind → Bool
  | .i8, .i8 => true | .i16, .i16 => true | .i32, .i32 => true | .i64, .i64 => true
  | .u8, .u8 => true | .u16, .u16 => true | .u32, .u32 => true | .u64, .u64 => true
  | _, _ => false

/-- 'and', 'or', 'xor' of two numbers that are not below 0; else by the model's own words. -/
def bits (op : BinOp) (k : IntKind) (a b : Int) : Option Int :=
  match op with
  | .and => match a, b with
    | .ofNat x, .ofNat y => some (wrapF k (.ofNat (Nat.land x y)))
    | _, _ => some (k.wrap (BitVec.ofInt k.bits a &&& BitVec.ofInt k.bits b).toNat)
  | .or => match a, b with
    | .ofNat x, .ofNat y => some (wrapF k (.ofNat (Nat.lor x y)))
    | _, _ => some (k.wrap (BitVec.ofInt k.bits a ||| BitVec.ofInt k.bits b).toNat)
  | .xor => match a, b with
    | .ofNat x, .ofNat y => some (wrapF k (.ofNat (Nat.xor x y)))
    | _, _ => some (k.wrap (BitVec.ofInt k.bits a ^^^ BitVec.ofInt k.bits b).toNat)
  | _ => none

def arith (op : BinOp) (k : IntKind) (a b : Int) : Option AV :=
  match op with
  | .add => some (.int k (wrapF k (Int.add a b)))
  | .sub => some (.int k (wrapF k (Int.sub a b)))
  | .mul => some (.int k (wrapF k (Int.mul a b)))
  | .eql => some (.bool (ibeq a b))
  | .neq => some (.bool (ibeq a b).not)
  | .lss => some (.bool (ilt a b))
  | .leq => some (.bool (ible a b))
  | .gtr => some (.bool (ilt b a))
  | .geq => some (.bool (ible b a))
  | .quo => match ibeq b 0 with
    | true => none
    | false => some (.int k (wrapF k (Int.tdiv a b)))
  | .rem => match ibeq b 0 with
    | true => none
    | false => some (.int k (Int.tmod a b))
  | op => match bits op k a b with
    | some n => some (.int k n)
    | none => none

def shiftI (op : BinOp) (k : IntKind) (a b : Int) : Option AV :=
  match b with
  | .negSucc _ => none
  | .ofNat n => match Nat.ble n 64 with
    | false => none
    | true => match op with
      | .shl => some (.int k (wrapF k (Int.mul a (.ofNat (Nat.pow 2 (Nat.min n k.bits))))))
      | .shr => some (.int k (Int.fdiv a (.ofNat (Nat.pow 2 (Nat.min n k.bits)))))
      | _ => none

def cmpOf : BinOp → Option CmpOp
  | .eql => some .eq | .neq => some .ne | .lss => some .lt | .leq => some .le | .gtr => some .gt | .geq => some .ge
  | _ => none

def symI (op : BinOp) (k : IntKind) (a b : SI) : Option AV :=
  match cmpOf op with
  | some c => some (.sbool (.cmp c a b))
  | none => match op with
    | .add => some (.sint k (.add k a b))
    | .sub => some (.sint k (.sub k a b))
    | .mul => some (.sint k (.mul k a b))
    | .and => some (.sint k (.bin .and k a b))
    | .or => some (.sint k (.bin .or k a b))
    | .xor => some (.sint k (.bin .xor k a b))
    | .quo => match b with
      | .lit n => match ibeq n 0 with
        | true => none
        | false => some (.sint k (.bin .quo k a b))
      | _ => none
    | .rem => match b with
      | .lit n => match ibeq n 0 with
        | true => none
        | false => some (.sint k (.bin .rem k a b))
      | _ => none
    | _ => none

/-! ## Bounds of symbolic numbers -/
def loK (k : IntKind) : Int := match sgn k with | true => -((topN k : Int) + 1) | false => 0
def inK (k : IntKind) (l h : Int) : Option (Int × Int) := match (ible (loK k) l).and (ible h (topN k)) with
  | true => some (l, h)
  | false => some (loK k, topN k)
def rng : SI → Option (Int × Int)
  | .lit n => some (n, n)
  | .conv k a => match rng a with
    | some (l, h) => inK k l h
    | none => some (loK k, topN k)
  | .add k a b => match rng a with
    | some (l, h) => match rng b with
      | some (l', h') => inK k (l + l') (h + h')
      | none => some (loK k, topN k)
    | none => some (loK k, topN k)
  | .sub k a b => match rng a with
    | some (l, h) => match rng b with
      | some (l', h') => inK k (l - h') (h - l')
      | none => some (loK k, topN k)
    | none => some (loK k, topN k)
  | .mul k _ _ => some (loK k, topN k)
  | _ => none

/-- Shifts by what is not below 0. -/
def symSh (op : BinOp) (k : IntKind) (a b : SI) : Option AV :=
  match rng b with
  | some (l, _) => match ible 0 l with
    | true => match op with
      | .shl => some (.sint k (.bin .shl k a b))
      | .shr => some (.sint k (.bin .shr k a b))
      | _ => none
    | false => none
  | none => none

def symOp (op : BinOp) (k j : IntKind) (a b : SI) : Option AV :=
  match op with
  | .shl => symSh .shl k a b
  | .shr => symSh .shr k a b
  | op => match ikBeq k j with
    | true => symI op k a b
    | false => none

/-- Cells that are compared, some of them symbolic. -/
def siOf : AV → Option (IntKind × SI)
  | .int k n => some (k, .lit n)
  | .sint k e => some (k, e)
  | _ => none
def sbOf : AV → Option SB
  | .bool b => some (.lit b)
  | .sbool e => some e
  | _ => none
/-! ## Strings: n bytes, the first one least -/
def strByte (x i : Nat) : Nat := Nat.mod (Nat.div x (Nat.pow 256 i)) 256
def strCut (x l n : Nat) : Nat := Nat.mod (Nat.div x (Nat.pow 256 l)) (Nat.pow 256 n)
def strBytes : Nat → Nat → List Nat
  | 0, _ => []
  | n + 1, x => Nat.mod x 256 :: strBytes n (Nat.div x 256)
def strOf (l : List UInt8) : Nat := l.foldr (fun b acc => b.toNat + 256 * acc) 0

/-- Less, by bytes. -/
def strLt : Nat → Nat → Nat → Nat → Bool
  | _, _, 0, _ => false
  | 0, _, _ + 1, _ => true
  | n + 1, x, m + 1, y => match Nat.blt (Nat.mod x 256) (Nat.mod y 256) with
    | true => true
    | false => match Nat.beq (Nat.mod x 256) (Nat.mod y 256) with
      | true => strLt n (Nat.div x 256) m (Nat.div y 256)
      | false => false

/-! ## Equality -/
def scalEq : CK → AV → AV → Option Bool
  | .int, .int k a, .int j b => match ikBeq k j with
    | true => some (ibeq a b)
    | false => none
  | .bool, .bool a, .bool b => some (a == b)
  | .str, .str n x, .str m y => some ((Nat.beq n m).and (Nat.beq x y))
  | _, _, _ => none

def cellsEq : List CK → List AV → List AV → Option Bool
  | [], [], [] => some true
  | c :: cs, a :: as, b :: bs => match scalEq c a b with
    | some true => cellsEq cs as bs
    | some false => match cellsEq cs as bs with
      | some _ => some false
      | none => none
    | none => none
  | _, _, _ => none

def keyEq (kk : KK) (a b : AV) : Option Bool :=
  match kk with
  | .scal c => scalEq c a b
  | .agg l => match a, b with
    | .agg x, .agg y => cellsEq l x y
    | _, _ => none

/-- Whether two values are the same one: 'some true' only then. (For what is looked at again.) -/
def AV.flat : AV → AV → Bool
  | .int k a, .int j b => (ikBeq k j).and (ibeq a b)
  | .bool a, .bool b => a == b
  | .str n x, .str m y => (Nat.beq n m).and (Nat.beq x y)
  | .nilp, .nilp => true
  | .ptr i o, .ptr j p => (Nat.beq i j).and (Nat.beq o p)
  | .nils, .nils => true
  | .emp, .emp => true
  | .slice i o n c, .slice j p m d => (Nat.beq i j).and ((Nat.beq o p).and ((Nat.beq n m).and (match c, d with | none, none => true | some x, some y => Nat.beq x y | _, _ => false)))
  | .nilm, .nilm => true
  | .map i, .map j => Nat.beq i j
  | .nilf, .nilf => true
  | .fn f [], .fn g [] => Nat.beq f g
  | .nili, .nili => true
  | .sint k a, .sint j b => (ikBeq k j).and (decide (a = b))
  | .sbool a, .sbool b => decide (a = b)
  | _, _ => false

def flats : List AV → List AV → Bool
  | [], [] => true
  | a :: as, b :: bs => match AV.flat a b with
    | true => flats as bs
    | false => false
  | _, _ => false

def AV.same : AV → AV → Bool
  | .agg a, .agg b => flats a b
  | .tup a, .tup b => flats a b
  | .fn f a, .fn g b => (Nat.beq f g).and (flats a b)
  | a, b => AV.flat a b

/-! ## Pure operations and reads -/
def evA (t : Tr AV) : AOp → AV
  | .val v => v
  | .tmp i => match t.get i with
    | some v => v
    | none => AV.undef

def evAs (t : Tr AV) : List AOp → List AV
  | [] => []
  | x :: xs => evA t x :: evAs t xs

def ldCells (h : Tr AO) (i o n : Nat) : Option (List AV) :=
  match h.get i with
  | some (.cells m _ _ t) => match Nat.ble (Nat.add o n) m with
    | true => t.getAll o n
    | false => none
  | _ => none

def ld (h : Tr AO) (agg : Bool) (size : Nat) : AV → Option AV
  | .ptr i o => match agg with
    | true => match ldCells h i o size with
      | some l => some (.agg l)
      | none => none
    | false => match h.get i with
      | some (.cells m _ _ t) => match Nat.blt o m with
        | true => t.get o
        | false => none
      | _ => none
  | _ => none

def partOf (agg : Bool) (size off : Nat) (cs : List AV) : Option AV :=
  match agg with
  | true => some (.agg ((cs.drop off).take size))
  | false => cs[off]?

def overlay : List AV → Nat → List AV → List AV
  | cs, _, [] => cs
  | [], _, _ => []
  | _ :: cs, 0, v :: vs => v :: overlay cs 0 vs
  | c :: cs, n + 1, vs => c :: overlay cs n vs

def fillZ (t : Tr AV) : List AV → List (Nat × Nat × AOp) → Option (List AV)
  | cs, [] => some cs
  | cs, (off, size, x) :: rest => match cellsO (evA t x) with
    | some vs => match (Nat.beq vs.length size).and (Nat.ble (Nat.add off size) cs.length) with
      | true => fillZ t (overlay cs off vs) rest
      | false => none
    | none => none

def natOf : AV → Option Nat
  | .int _ (.ofNat n) => some n
  | _ => none

def findIn (kk : KK) (k : AV) : List (AV × AV × Nat) → Nat → Option (Option (Nat × AV))
  | [], _ => some none
  | e :: es, i => match keyEq kk k e.1 with
    | some true => some (some (i, e.2.1))
    | some false => findIn kk k es (Nat.succ i)
    | none => none

def keyOk (kk : KK) (k : AV) : Bool :=
  match kk with
  | .scal _ => true
  | .agg l => match k with
    | .agg x => Nat.beq x.length l.length
    | _ => false

def findK (kk : KK) (k : AV) (es : List (AV × AV × Nat)) : Option (Option (Nat × AV)) :=
  match keyOk kk k with
  | true => findIn kk k es 0
  | false => none

def mapEs (h : Tr AO) : AV → Option (List (AV × AV × Nat))
  | .nilm => some []
  | .map i => match h.get i with
    | some (.map es _) => some es
    | _ => none
  | _ => none

def umapEs (h : Tr AO) : AV → Option (List (AV × AV))
  | .map i => match h.get i with
    | some (.umap es) => some es
    | _ => none
  | _ => none

/-- The one entry of a key, where every entry can be told. -/
def findU (kk : KK) (k : AV) : List (AV × AV) → Option (Option AV)
  | [] => some none
  | e :: es => match keyEq kk k e.1 with
    | some true => match findU kk k es with
      | some none => some (some e.2)
      | _ => none
    | some false => findU kk k es
    | none => none

def eqv (k : EqK) (x y : AV) : Option Bool :=
  match k with
  | .bool => match x, y with
    | .bool a, .bool b => some (a == b)
    | _, _ => none
  | .ptr => match x, y with
    | .nilp, .nilp => some true
    | .nilp, .ptr _ _ => some false
    | .ptr _ _, .nilp => some false
    | _, _ => none
  | .slice => match x, y with
    | .nils, .nils => some true
    | .nils, .slice .. | .nils, .sslice .. | .nils, .emp => some false
    | .slice .., .nils | .sslice .., .nils | .emp, .nils => some false
    | _, _ => none
  | .map => match x, y with
    | .nilm, .nilm => some true
    | .nilm, .map _ => some false
    | .map _, .nilm => some false
    | _, _ => none
  | .func => match x, y with
    | .nilf, .nilf => some true
    | .nilf, .fn .. => some false
    | .fn .., .nilf => some false
    | _, _ => none
  | .iface bare => match x, y with
    | .nili, .nili => match bare with
      | true => some true
      | false => none
    | .nili, .iface .. => some false
    | .iface .., .nili => some false
    | _, _ => none
  | .agg l => match x, y with
    | .agg a, .agg b => cellsEq l a b
    | _, _ => none
  | .bad => none

def cellsSym : List CK → List AV → List AV → Option SB
  | [], [], [] => some (.lit true)
  | c :: cs, a :: as, b :: bs => match cellsSym cs as bs with
    | none => none
    | some r => match c with
      | .int => match siOf a with
        | some (k, x) => match siOf b with
          | some (j, y) => match ikBeq k j with
            | true => some (.and (.cmp .eq x y) r)
            | false => none
          | none => none
        | none => none
      | .bool => match sbOf a with
        | some x => match sbOf b with
          | some y => some (.and (.iff x y) r)
          | none => none
        | none => none
      | .str => match scalEq .str a b with
        | some q => some (.and (.lit q) r)
        | none => none
  | _, _, _ => none

/-- What is compared, some of it symbolic. -/
def eqvS (k : EqK) (x y : AV) : Option SB :=
  match k with
  | .bool => match sbOf x with
    | some a => match sbOf y with
      | some b => some (.iff a b)
      | none => none
    | none => none
  | .agg l => match x, y with
    | .agg a, .agg b => cellsSym l a b
    | _, _ => none
  | _ => none

def evBin (op : BinOp) (flat : EqK) (x y : AV) : Option AV :=
  match x, y with
  | .int k a, .int j b => match op with
    | .shl | .shr => shiftI op k a b
    | _ => match ikBeq k j with
      | true => arith op k a b
      | false => none
  | .sint k a, .int j b => symOp op k j a (.lit b)
  | .int k a, .sint j b => symOp op k j (.lit a) b
  | .sint k a, .sint j b => symOp op k j a b
  | .str n x, .str m y => match op with
    | .add => match Nat.ble (Nat.add n m) 4611686018427387904 with
      | true => some (.str (Nat.add n m) (Nat.add x (Nat.mul (Nat.pow 256 n) y)))
      | false => none
    | .eql => some (.bool ((Nat.beq n m).and (Nat.beq x y)))
    | .neq => some (.bool ((Nat.beq n m).and (Nat.beq x y)).not)
    | .lss => some (.bool (strLt n x m y))
    | .geq => some (.bool (strLt n x m y).not)
    | .gtr => some (.bool (strLt m y n x))
    | .leq => some (.bool (strLt m y n x).not)
    | _ => none
  | x, y => match op with
    | .eql => match eqv flat x y with
      | some b => some (.bool b)
      | none => match eqvS flat x y with
        | some e => some (.sbool e)
        | none => none
    | .neq => match eqv flat x y with
      | some b => some (.bool b.not)
      | none => match eqvS flat x y with
        | some e => some (.sbool (.not e))
        | none => none
    | _ => none

def bnd (t : Tr AV) (d : Nat) : Option AOp → Option Nat
  | none => some d
  | some x => natOf (evA t x)

/-- What only reckons, or reads. -/
def evPR (t : Tr AV) (h : Tr AO) : AI → Option AV
  | .move x => some (evA t x)
  | .build z ps => match fillZ t z ps with
    | some cs => some (.agg cs)
    | none => none
  | .load agg size a => ld h agg size (evA t a)
  | .nilCheck x => match evA t x with
    | .ptr i o => some (.ptr i o)
    | .fn f cs => some (.fn f cs)
    | .iface t v => some (.iface t v)
    | .map i => some (.map i)
    | _ => none
  | .bin op flat x y => evBin op flat (evA t x) (evA t y)
  | .un op x => match op, evA t x with
    | .not, .bool b => some (.bool b.not)
    | .not, .sbool e => some (.sbool (.not e))
    | .neg, .int k n => some (.int k (wrapF k (Int.sub 0 n)))
    | .neg, .sint k e => some (.sint k (.sub k (.lit 0) e))
    | .xor, .int k n => match sgn k with
      | true => match bits .xor k (-1) n with
        | some m => some (.int k m)
        | none => none
      | false => none
    | _, _ => none
  | .convInt k x => match evA t x with
    | .int _ n => some (.int k (wrapF k n))
    | .sint _ e => some (.sint k (.conv k e))
    | _ => none
  | .convSame x => match evA t x with
    | .str n x => some (.str n x)
    | _ => none
  | .intToStr x => match evA t x with
    | .int _ (.ofNat n) => match Nat.blt n 128 with
      | true => some (.str 1 n)
      | false => none
    | _ => none
  | .mkIface ty x => some (.iface ty (evA t x))
  | .assertTo ty z ok x => match evA t x with
    | .iface u v => match Nat.beq u ty with
      | true => match ok with
        | true => some (.tup [v, .bool true])
        | false => some v
      | false => match ok with
        | true => some (.tup [z, .bool false])
        | false => none
    | .nili => match ok with
      | true => some (.tup [z, .bool false])
      | false => none
    | _ => none
  | .mkFunc f first caps => match first with
    | [] => some (.fn f (evAs t caps))
    | _ => none
  | .sliceStr x l h' => match evA t x with
    | .str n s => match bnd t n h' with
      | some hi => match bnd t 0 l with
        | some lo => match (Nat.ble lo hi).and (Nat.ble hi n) with
          | true => some (.str (Nat.sub hi lo) (strCut s lo (Nat.sub hi lo)))
          | false => none
        | none => none
      | none => none
    | _ => none
  | .sliceSl size x l h' m => match evA t x with
    | .emp => match bnd t 0 h', bnd t 0 l, m with
      | some 0, some 0, none => some .emp
      | _, _, _ => none
    | .nils => match bnd t 0 h', bnd t 0 l, m with
      | some 0, some 0, none => some .nils
      | _, _, _ => none
    | .slice i o n c => match bnd t n h' with
      | some hi => match bnd t 0 l with
        | some lo => match m with
          | none => match c with
            | some c => match (Nat.ble lo hi).and (Nat.ble hi c) with
              | true => match Nat.beq lo c with
                | true => some .emp
                | false => some (.slice i (Nat.add o (Nat.mul lo size)) (Nat.sub hi lo) (some (Nat.sub c lo)))
              | false => none
            | none => match ((Nat.ble lo hi).and (Nat.ble hi n)).and (Nat.ble 1 size) with
              | true => match Nat.blt lo n with
                | true => some (.slice i (Nat.add o (Nat.mul lo size)) (Nat.sub hi lo) none)
                | false => some .emp
              | false => none
          | some mm => match h' with
            | none => none
            | some _ => match natOf (evA t mm) with
            | some mx => match (Nat.ble lo hi).and ((Nat.ble hi mx).and (Nat.ble mx (match c with | some c => c | none => n))) with
              | true => match Nat.beq lo mx with
                | true => some .emp
                | false => some (.slice i (Nat.add o (Nat.mul lo size)) (Nat.sub hi lo) (some (Nat.sub mx lo)))
              | false => none
            | none => none
        | none => none
      | none => none
    | _ => none
  | .sliceArr size n x l h' m => match m with
    | some _ => none
    | none => match evA t x with
      | .ptr i o => match bnd t n h' with
        | some hi => match bnd t 0 l with
          | some lo => match (Nat.ble lo hi).and ((Nat.ble hi n).and (Nat.blt lo n)) with
            | true => some (.slice i (Nat.add o (Nat.mul lo size)) (Nat.sub hi lo) (some (Nat.sub n lo)))
            | false => none
          | none => none
        | none => none
      | _ => none
  | .fieldAddr off x => match evA t x with
    | .ptr i o => some (.ptr i (Nat.add o off))
    | _ => none
  | .field agg size off x => match evA t x with
    | .agg cs => partOf agg size off cs
    | _ => none
  | .indexSl size x i => match evA t x with
    | .slice b o n _ => match natOf (evA t i) with
      | some j => match Nat.blt j n with
        | true => some (.ptr b (Nat.add o (Nat.mul j size)))
        | false => none
      | none => none
    | _ => none
  | .indexArrAddr size n x i => match evA t x with
    | .ptr b o => match natOf (evA t i) with
      | some j => match Nat.blt j n with
        | true => some (.ptr b (Nat.add o (Nat.mul j size)))
        | false => none
      | none => none
    | _ => none
  | .indexStr x i => match evA t x with
    | .str n s => match natOf (evA t i) with
      | some j => match Nat.blt j n with
        | true => some (.int .u8 (.ofNat (strByte s j)))
        | false => none
      | none => none
    | _ => none
  | .indexArr agg size n x i => match evA t x with
    | .agg cs => match natOf (evA t i) with
      | some j => match Nat.blt j n with
        | true => partOf agg size (Nat.mul j size) cs
        | false => none
      | none => none
    | _ => none
  | .lookup flat z ok m k => match mapEs h (evA t m) with
    | some es => match findK flat (evA t k) es with
      | some (some (_, v)) => match ok with
        | true => some (.tup [v, .bool true])
        | false => some v
      | some none => match ok with
        | true => some (.tup [z, .bool false])
        | false => some z
      | none => none
    | none => match umapEs h (evA t m) with
      | none => none
      | some es => match keyOk flat (evA t k) with
        | false => none
        | true => match findU flat (evA t k) es with
          | some (some v) => match ok with
            | true => some (.tup [v, .bool true])
            | false => some v
          | some none => match ok with
            | true => some (.tup [z, .bool false])
            | false => some z
          | none => none
  | .entry x => match evA t x with
    | .ptr i o => match o with
      | 0 => match h.get i with
        | some (.miter (some m) _ seen stepped) => match seen.getLast? with
          | some stamp => match h.get m with
            | some (.map es clock) => match Nat.beq clock stepped with
              | true => match es.find? (fun e => Nat.beq e.2.2 stamp) with
                | some e => some (.tup [e.1, e.2.1])
                | none => none
              | false => none
            | _ => none
          | none => none
        | _ => none
      | _ => none
    | _ => none
  | .extract x i => match evA t x with
    | .tup l => l[i]?
    | _ => none
  | .lenStr x => match evA t x with
    | .str n _ => some (.int .i64 (.ofNat n))
    | _ => none
  | .lenSl x => match evA t x with
    | .nils => some (.int .i64 0)
    | .emp => some (.int .i64 0)
    | .slice _ _ n _ => some (.int .i64 (.ofNat n))
    | .sslice _ _ n => some (.sint .i64 n)
    | _ => none
  | .lenMap x => match mapEs h (evA t x) with
    | some es => some (.int .i64 (.ofNat es.length))
    | none => none
  | .lenArr n => some (.int .i64 (.ofNat n))
  | .maxi x xs => match evA t x with
    | .int k a => match xs with
      | [y] => match evA t y with
        | .int _ b => some (.int k (match ilt a b with | true => b | false => a))
        | _ => none
      | _ => none
    | _ => none
  | .mini x xs => match evA t x with
    | .int k a => match xs with
      | [y] => match evA t y with
        | .int _ b => some (.int k (match ilt b a with | true => b | false => a))
        | _ => none
      | _ => none
    | _ => none
  | _ => none

/-- What makes a new object, and reads nothing: the object, and the value with its number. -/
def evNew (t : Tr AV) (i : Nat) : AI → Option (AO × AV)
  | .alloc z => some (.cells z.length 0 0 (Tr.setAll .leaf 0 z), .ptr i 0)
  | .box x => match cellsO (evA t x) with
    | some cs => some (.cells cs.length 0 0 (Tr.setAll .leaf 0 cs), .ptr i 0)
    | none => none
  | .buildSlice z n ps => match fillZ t z ps with
    | some cs => some (.cells cs.length 0 0 (Tr.setAll .leaf 0 cs), .slice i 0 n (some n))
    | none => none
  | .mkMap => some (.map [] 0, .map i)
  | .mkSlice z _ bytes l c => match natOf (evA t l) with
    | some n => match natOf (evA t c) with
      | some m => match ((Nat.ble n m).and (Nat.ble 1 bytes)).and (Nat.ble (Nat.mul m bytes) 70368744177664) with
        | true => let cs := (List.replicate m z).flatten
          some (.cells cs.length 0 0 (Tr.setAll .leaf 0 cs), .slice i 0 n (some m))
        | false => none
      | none => none
    | none => none
  | .rangeStr x => match evA t x with
    | .str n s => some (.siter n s 0, .ptr i 0)
    | _ => none
  | _ => none

/-! ## Operations that write -/
def stCells (h : Tr AO) (i o : Nat) (vs : List AV) : Option (Tr AO) :=
  match h.get i with
  | some (.cells m g e t) => match Nat.ble (Nat.add o vs.length) m with
    | true => some (h.set i (some (.cells m g e (t.setAll o vs))))
    | false => none
  | _ => none

def srcCells (h : Tr AO) (size n : Nat) : AV → Option (List AV)
  | .nils => some []
  | .emp => some []
  | .slice i o _ _ => ldCells h i o (Nat.mul n size)
  | .str _ x => some ((strBytes n x).map fun b => .int .u8 (.ofNat b))
  | _ => none

def srcLen : AV → Option Nat
  | .nils => some 0
  | .emp => some 0
  | .slice _ _ n _ => some n
  | .str n _ => some n
  | _ => none

/-- The cells of what is appended. -/
def srcRow (h : Tr AO) (size n : Nat) : AV → Option (List AV)
  | .slice i o _ _ => ldCells h i o (Nat.mul n size)
  | _ => none

/-- A slice that grew: where the old array had room for it or not, the old one is not looked at again. -/
def appendE (size bytes e : Nat) (h : Tr AO) (nx : Nat) (s x : AV) : Option (AV × Tr AO × Nat) :=
  match srcLen x with
  | none => none
  | some 0 => match s with
    | .nils => some (.nils, h, nx)
    | .emp => some (.emp, h, nx)
    | .slice i o n c => some (.slice i o n c, h, nx)
    | _ => none
  | some (k + 1) => match srcRow h size (Nat.succ k) x with
    | none => none
    | some new => match s with
      | .nils => match ((Nat.ble 1 bytes).and (Nat.ble 1 size)).and (Nat.ble (Nat.mul (Nat.succ k) bytes) 35184372088832) with
        | true => some (.slice nx 0 (Nat.succ k) none, h.set nx (some (.cells new.length size e (Tr.setAll .leaf 0 new))), Nat.succ nx)
        | false => none
      | .slice i o n c => match ((Nat.ble 1 bytes).and (Nat.ble 1 size)).and (Nat.ble (Nat.mul (Nat.add n (Nat.succ k)) bytes) 35184372088832) with
        | false => none
        | true => match c with
          | some c => match Nat.ble (Nat.add n (Nat.succ k)) c with
            | true => match stCells h i (Nat.add o (Nat.mul n size)) new with
              | some h' => some (.slice i o (Nat.add n (Nat.succ k)) (some c), h', nx)
              | none => none
            | false => match ldCells h i o (Nat.mul n size) with
              | some old => let cs := old ++ new
                some (.slice nx 0 (Nat.add n (Nat.succ k)) none, h.set nx (some (.cells cs.length size e (Tr.setAll .leaf 0 cs))), Nat.succ nx)
              | none => none
          | none => match o with
            | 0 => match h.get i with
              | some (.cells m g e' t) => match ((Nat.beq g size).and (Nat.beq e' e)).and (Nat.ble (Nat.mul n size) m) with
                | true => some (.slice nx 0 (Nat.add n (Nat.succ k)) none,
                    (h.set i none).set nx (some (.cells (Nat.mul (Nat.add n (Nat.succ k)) size) size e (t.setAll (Nat.mul n size) new))), Nat.succ nx)
                | false => none
              | _ => none
            | _ => none
      | _ => none

def mapPut (flat : KK) (h : Tr AO) (m k v : AV) : Option (Tr AO) :=
  match m with
  | .map i => match h.get i with
    | some (.map es clock) => match findK flat k es with
      | some (some (j, _)) => some (h.set i (some (.map (es.modify j fun e => (k, v, e.2.2)) clock)))
      | some none => some (h.set i (some (.map (es ++ [(k, v, clock)]) (Nat.succ clock))))
      | none => none
    | some (.umap es) => match keyOk flat k with
      | true => match findU flat k es with
        | some none => some (h.set i (some (.umap (es ++ [(k, v)]))))
        | _ => none
      | false => none
    | _ => none
  | _ => none

def mapSlot (flat : KK) (z : AV) (h : Tr AO) (m k : AV) : Option (AV × Tr AO) :=
  match m with
  | .map i => match h.get i with
    | some (.map es clock) => match findK flat k es with
      | some (some (j, v)) => match es[j]? with
        | some e => some (.tup [v, .int .i64 (.ofNat e.2.2)], h.set i (some (.map (es.modify j fun e => (k, e.2)) clock)))
        | none => none
      | some none => some (.tup [z, .int .i64 (.ofNat clock)], h.set i (some (.map (es ++ [(k, z, clock)]) (Nat.succ clock))))
      | none => none
    | _ => none
  | _ => none

def slotPut (h : Tr AO) (m s v : AV) : Option (Tr AO) :=
  match m with
  | .map i => match h.get i with
    | some (.map es clock) => match natOf s with
      | some b => match es.findIdx? (fun e => Nat.beq e.2.2 b) with
        | some j => some (h.set i (some (.map (es.modify j fun e => (e.1, v, e.2.2)) clock)))
        | none => none
      | none => none
    | _ => none
  | _ => none

def mapDel (flat : KK) (h : Tr AO) (m k : AV) : Option (Tr AO) :=
  match m with
  | .map i => match h.get i with
    | some (.map es clock) => match findK flat k es with
      | some (some (j, _)) => some (h.set i (some (.map (es.eraseIdx j) clock)))
      | some none => some h
      | none => none
    | _ => none
  | _ => none

def copyE (size : Nat) (h : Tr AO) (a b : AV) : Option (AV × Tr AO) :=
  match srcLen b, srcLen a with
  | some n, some m => match srcCells h size (Nat.min n m) b with
    | some cs => match a with
      | .nils => some (.int .i64 0, h)
      | .emp => some (.int .i64 0, h)
      | .slice i o _ _ => match stCells h i o cs with
        | some h' => some (.int .i64 (.ofNat (Nat.min n m)), h')
        | none => none
      | _ => none
    | none => none
  | _, _ => none

/-- The entries that an iterator may give next; 'none': it may end. -/
def cands (es : List (AV × AV × Nat)) (since : Nat) (seen : List Nat) : List (Option (AV × AV × Nat)) :=
  let left := es.filter fun e => (seen.contains e.2.2).not
  let old := left.filter fun e => Nat.blt e.2.2 since
  let new := left.filter fun e => Nat.ble since e.2.2
  (match old with | [] => [none] | _ => []) ++ (old ++ new).map some

/-- All choices. -/
def chL {α β : Type} : List β → (β → R α) → R α
  | [], _ => .fail 26
  | x :: xs, f => match xs with
    | [] => f x
    | _ :: _ => .both (f x) (chL xs f)

/-! ## Control -/
def pcFind (c : SB) : List (SB × Bool) → Option Bool
  | [] => none
  | (e, b) :: pc => match decide (e = c) with
    | true => some b
    | false => pcFind c pc

/-- Below, as far as bounds tell it. -/
def decLt (a b : SI) : Option Bool := match decide (a = b) with
  | true => some false
  | false => match rng a with
    | none => none
    | some (l, h) => match rng b with
      | none => none
      | some (l', h') => match ilt h l' with
        | true => some true
        | false => match ible h' l with
          | true => some false
          | false => none
def decEq (a b : SI) : Option Bool := match decide (a = b) with
  | true => some true
  | false => match decLt a b with
    | some true => some false
    | _ => match decLt b a with
      | some true => some false
      | _ => none
/-- As far as the branches tell it. -/
def eqPc (pc : List (SB × Bool)) (a b : SI) : Option Bool := match pcFind (.cmp .eq a b) pc with
  | some x => some x
  | none => pcFind (.cmp .eq b a) pc
def ltPc (pc : List (SB × Bool)) (a b : SI) : Option Bool := match decLt a b with
  | some x => some x
  | none => match pcFind (.cmp .lt a b) pc with
    | some x => some x
    | none => match eqPc pc a b with
      | some true => some false
      | e => match pcFind (.cmp .lt b a) pc with
        | some true => some false
        | some false => match e with
          | some false => some true
          | _ => none
        | none => none
def eqPc2 (pc : List (SB × Bool)) (a b : SI) : Option Bool := match decEq a b with
  | some x => some x
  | none => match eqPc pc a b with
    | some x => some x
    | none => match pcFind (.cmp .lt a b) pc with
      | some true => some false
      | x => match pcFind (.cmp .lt b a) pc with
        | some true => some false
        | some false => match x with
          | some false => some true
          | _ => none
        | none => none

/-- The last so many tests: what is told of older ones is let go. -/
def pcTk {β γ : Type} : Nat → List γ → (List γ → β) → β
  | 0, _, c => c []
  | _ + 1, [], c => c []
  | n + 1, x :: xs, c => pcTk n xs fun ys => c (x :: ys)
theorem pcTk_eq {β γ : Type} : ∀ (n : Nat) (l : List γ) (c : List γ → β), pcTk n l c = c (l.take n)
  | 0, _, _ => by rw [pcTk, List.take_zero]
  | _ + 1, [], _ => by rw [pcTk, List.take_nil]
  | n + 1, x :: xs, c => by rw [pcTk, pcTk_eq n xs, List.take_succ_cons]

def brB {α : Type} (pc : List (SB × Bool)) (c : SB) (o : Option Bool) (k : Bool → List (SB × Bool) → R α) : R α :=
  match o with
  | some b => k b pc
  | none => pcTk 15 pc fun pc => .br c (k true ((c, true) :: pc)) (k false ((c, false) :: pc))

def withSB {α : Type} : SB → List (SB × Bool) → (Bool → List (SB × Bool) → R α) → R α
  | .lit b, pc, k => k b pc
  | .var i, pc, k => brB pc (.var i) (pcFind (.var i) pc) k
  | .not c, pc, k => withSB c pc fun x pc => k x.not pc
  | .and a b, pc, k => withSB a pc fun x pc => match x with
    | true => withSB b pc k
    | false => k false pc
  | .iff a b, pc, k => withSB a pc fun x pc => withSB b pc fun y pc => k (match x with | true => y | false => y.not) pc
  | .cmp c a b, pc, k => match c with
    | .lt => brB pc (.cmp .lt a b) (ltPc pc a b) k
    | .gt => brB pc (.cmp .lt b a) (ltPc pc b a) k
    | .le => brB pc (.cmp .lt b a) (ltPc pc b a) fun x pc => k x.not pc
    | .ge => brB pc (.cmp .lt a b) (ltPc pc a b) fun x pc => k x.not pc
    | .eq => brB pc (.cmp .eq a b) (eqPc2 pc a b) k
    | .ne => brB pc (.cmp .eq a b) (eqPc2 pc a b) fun x pc => k x.not pc

def withB {α : Type} (pc : List (SB × Bool)) (v : AV) (k : Bool → List (SB × Bool) → R α) : R α :=
  match v with
  | .bool b => k b pc
  | .sbool c => withSB c pc k
  | _ => .fail 1

def put (t : Tr AV) (d : Option Nat) (v : AV) : Tr AV :=
  match d with
  | none => t
  | some i => t.set i (some v)

/-- Calls, handed on. -/
abbrev Rec (α : Type) := ACode → St → (AExit → St → R α) → R α

def resV (t : Tr AV) (h : Tr AO) : ARes → Option AV
  | .tmp i => some (evA t (.tmp i))
  | .cell a agg size => ld h agg size (evA t (.tmp a))

def resVs (t : Tr AV) (h : Tr AO) : List ARes → Option (List AV)
  | [] => some []
  | r :: rs => match resV t h r with
    | none => none
    | some v => match resVs t h rs with
      | none => none
      | some vs => some (v :: vs)

def tupOf : List AV → AV
  | [v] => v
  | l => .tup l

structure Cfg where
  fn : Nat → Option AFn
  ext : Nat → Option (List AV → Tr AO → Option AV)      -- functions whose answer is known
  nop : Nat → Bool                      -- deferred functions that do nothing where nothing panics

/-- The deferred calls, then the results. -/
def leave {α : Type} (C : Cfg) (ih : Rec α) (res : List ARes) (t : Tr AV) : List ADefer → Tr AO → Nat → List (SB × Bool) → (AV → Tr AO → Nat → List (SB × Bool) → R α) → R α
  | [], h, nx, pc, k => match resVs t h res with
    | some vs => k (tupOf vs) h nx pc
    | none => .fail 2
  | d :: ds, h, nx, pc, k => match C.nop d.f with
    | true => leave C ih res t ds h nx pc k
    | false => match C.fn d.f with
      | some g => ih g.body ⟨Tr.setAll .leaf 0 d.args, [], h, nx, pc⟩ fun e s => match e with
        | .exit _ => .fail 3
        | _ => match s.d with
          | [] => match resVs s.t s.h g.res with
            | some _ => leave C ih res t ds s.h s.nx s.pc k
            | none => .fail 51
          | _ => .fail 4
      | none => .fail 5

def call {α : Type} (C : Cfg) (ih : Rec α) (f : Nat) (args : List AV) (h : Tr AO) (nx : Nat) (pc : List (SB × Bool)) (k : AV → Tr AO → Nat → List (SB × Bool) → R α) : R α :=
  match C.ext f with
  | some g => match g args h with
    | some v => k v h nx pc
    | none => .fail 9
  | none => match C.fn f with
    | none => .fail 6
    | some g => match Nat.ble args.length g.ntmps with
      | false => .fail 7
      | true => ih g.body ⟨Tr.setAll .leaf 0 args, [], h, nx, pc⟩ fun e s => match e with
        | .exit _ => .fail 8
        | _ => leave C ih g.res s.t s.d s.h s.nx s.pc k

/-- What writes, calls, defers: the value behind it. -/
def evE {α : Type} (C : Cfg) (ih : Rec α) (op : AI) (s : St) (k : AV → St → R α) : R α :=
  match op with
  | .store size a x => match evA s.t a with
    | .ptr i o => match cellsO (evA s.t x) with
      | some vs => match Nat.beq vs.length size with
        | true => match stCells s.h i o vs with
          | some h => k AV.undef ⟨s.t, s.d, h, s.nx, s.pc⟩
          | none => .fail 10
        | false => .fail 11
      | none => .fail 11
    | _ => .fail 12
  | .append size bytes e a x => match appendE size bytes e s.h s.nx (evA s.t a) (evA s.t x) with
    | some (v, h, nx) => k v ⟨s.t, s.d, h, nx, s.pc⟩
    | none => .fail 13
  | .copy size a b => match copyE size s.h (evA s.t a) (evA s.t b) with
    | some (v, h) => k v ⟨s.t, s.d, h, s.nx, s.pc⟩
    | none => .fail 14
  | .mapUpd flat m key v => match mapPut flat s.h (evA s.t m) (evA s.t key) (evA s.t v) with
    | some h => k AV.undef ⟨s.t, s.d, h, s.nx, s.pc⟩
    | none => .fail 15
  | .mapEntry flat z m key => match mapSlot flat z s.h (evA s.t m) (evA s.t key) with
    | some (v, h) => k v ⟨s.t, s.d, h, s.nx, s.pc⟩
    | none => .fail 16
  | .entryStore m st v => match slotPut s.h (evA s.t m) (evA s.t st) (evA s.t v) with
    | some h => k AV.undef ⟨s.t, s.d, h, s.nx, s.pc⟩
    | none => .fail 17
  | .delete flat m key => match mapDel flat s.h (evA s.t m) (evA s.t key) with
    | some h => k (.tup []) ⟨s.t, s.d, h, s.nx, s.pc⟩
    | none => .fail 18
  | .strToBytes x => match evA s.t x with
    | .str n y => let cs := (strBytes n y).map fun b => AV.int .u8 (.ofNat b)
      k (.slice s.nx 0 n none) ⟨s.t, s.d, s.h.set s.nx (some (.cells n 0 0 (Tr.setAll .leaf 0 cs))), Nat.succ s.nx, s.pc⟩
    | _ => .fail 19
  | .rangeMap x => match evA s.t x with
    | .nilm => k (.ptr s.nx 0) ⟨s.t, s.d, s.h.set s.nx (some (.miter none 0 [] 0)), Nat.succ s.nx, s.pc⟩
    | .map i => match s.h.get i with
      | some (.map _ clock) => k (.ptr s.nx 0) ⟨s.t, s.d, s.h.set s.nx (some (.miter (some i) clock [] clock)), Nat.succ s.nx, s.pc⟩
      | _ => .fail 20
    | _ => .fail 21
  | .nextStr x => match evA s.t x with
    | .ptr i 0 => match s.h.get i with
      | some (.siter n y pos) => match Nat.blt pos n with
        | false => k (.tup [.bool false]) s
        | true => match Nat.blt (strByte y pos) 128 with
          | true => k (.tup [.bool true, .int .i64 (.ofNat pos), .int .i32 (.ofNat (strByte y pos))]) ⟨s.t, s.d, s.h.set i (some (.siter n y (Nat.succ pos))), s.nx, s.pc⟩
          | false => .fail 22
      | _ => .fail 23
    | _ => .fail 24
  | .nextMap x => match evA s.t x with
    | .ptr i 0 => match s.h.get i with
      | some (.miter none _ _ _) => k (.tup [.bool false]) s
      | some (.miter (some m) since seen last) => match s.h.get m with
        | some (.map es clock) =>
          match ((seen.isEmpty).not.and (es.isEmpty.not)).and (es.all fun e => Nat.ble last e.2.2) with
          | true => .fail 25
          | false => chL (cands es since seen) fun x => match x with
            | some e => k (.tup [.bool true, e.1, e.2.1]) ⟨s.t, s.d, s.h.set i (some (.miter (some m) since (seen ++ [e.2.2]) clock)), s.nx, s.pc⟩
            | none => k (.tup [.bool false]) s
        | _ => .fail 27
      | _ => .fail 28
    | _ => .fail 29
  | .callF f args => call C ih f (evAs s.t args) s.h s.nx s.pc fun v h nx pc => k v ⟨s.t, s.d, h, nx, pc⟩
  | .callV f args => match evA s.t f with
    | .fn g caps => call C ih g (evAs s.t args ++ caps) s.h s.nx s.pc fun v h nx pc => k v ⟨s.t, s.d, h, nx, pc⟩
    | _ => .fail 30
  | .deferF f args => match evA s.t f with
    | .fn g caps => k AV.undef ⟨s.t, ⟨g, evAs s.t args ++ caps⟩ :: s.d, s.h, s.nx, s.pc⟩
    | _ => .fail 31
  | .bad n => .fail (Nat.add 1000 n)
  | _ => .fail 32

/-- One operation that is wanted. -/
def evO {α : Type} (C : Cfg) (ih : Rec α) (op : AI) (s : St) (k : AV → St → R α) : R α :=
  match evPR s.t s.h op with
  | some v => k v s
  | none => match evNew s.t s.nx op with
    | some (o, v) => k v ⟨s.t, s.d, s.h.set s.nx (some o), Nat.succ s.nx, s.pc⟩
    | none => match op with
      | .pick c a b => withB s.pc (evA s.t c) fun x pc => k (match x with | true => evA s.t a | false => evA s.t b) ⟨s.t, s.d, s.h, s.nx, pc⟩
      | .indexSl size x i => match evA s.t x with
        | .sslice b o n => match natOf (evA s.t i) with
          | some j => withB s.pc (.sbool (.cmp .lt (.lit (.ofNat j)) n)) fun x pc => match x with
            | true => k (.ptr b (Nat.add o (Nat.mul j size))) ⟨s.t, s.d, s.h, s.nx, pc⟩
            | false => .fail 33
          | none => .fail 34
        | _ => .fail 35
      | .bin op _ x y => match siOf (evA s.t x) with
        | some (kd, a) => match siOf (evA s.t y) with
          | some (j, b) => match ikBeq kd j with
            | true => match (match op with | .quo => some XOp.quo | .rem => some XOp.rem | _ => none : Option XOp) with
              | some o => withB s.pc (.sbool (.cmp .eq b (.lit 0))) fun z pc => match z with
                | true => .fail 37
                | false => k (.sint kd (.bin o kd a b)) ⟨s.t, s.d, s.h, s.nx, pc⟩
              | none => .fail 32
            | false => .fail 32
          | none => .fail 32
        | none => .fail 32
      | op => evE C ih op s k

def guarded {α : Type} (g : Option (Nat × Bool)) (s : St) (yes no : St → R α) : R α :=
  match g with
  | none => yes s
  | some (j, want) => match s.t.get j with
    | some (.bool b) => match b == want with
      | true => yes s
      | false => no s
    | some (.sbool c) => withB s.pc (.sbool c) fun b pc => match b == want with
      | true => yes ⟨s.t, s.d, s.h, s.nx, pc⟩
      | false => no ⟨s.t, s.d, s.h, s.nx, pc⟩
    | some (.tup []) => no s
    | _ => .fail 36

def evOps {α : Type} (C : Cfg) (ih : Rec α) : List AOper → St → (St → R α) → R α
  | [], s, k => k s
  | o :: os, s, k => guarded o.guard s
      (fun s => evO C ih o.op s fun v s => evOps C ih os ⟨put s.t o.dst v, s.d, s.h, s.nx, s.pc⟩ k)
      (fun s => evOps C ih os ⟨put s.t o.dst AV.undef, s.d, s.h, s.nx, s.pc⟩ k)

/-- Objects made in a region that draws, laid in. -/
def lay : List (Nat × Nat × AO) → Tr AO → Tr AO
  | [], h => h
  | p :: ps, h => (lay ps h).set p.2.1 (some p.2.2)

def memN (n : Nat) : List Nat → Bool
  | [] => false
  | m :: ms => match Nat.beq m n with
    | true => true
    | false => memN n ms

def splitP (mg : List Nat) : List (Nat × Nat × AO) → List (Nat × Nat × AO) × List (Nat × Nat × AO)
  | [] => ([], [])
  | p :: ps => match splitP mg ps with
    | (a, b) => match memN p.1 mg with
      | true => (p :: a, b)
      | false => (a, p :: b)

/-- A read: its mark, the operation, the slots when it was done, what it gave. -/
abbrev Seen := Nat × AI × Tr AV × AV

def again (re : List Nat) (h : Tr AO) : List Seen → Bool
  | [] => true
  | (m, op, t, v) :: l => match memN m re with
    | true => match evPR t h op with
      | some w => match AV.same v w with
        | true => again re h l
        | false => false
      | none => false
    | false => again re h l

/-- A write whose place in the order is open. -/
inductive HW where
  | cells (o : Nat) (vs : List AV)
  | ins (kk : KK) (k v : AV)
  deriving Inhabited

/-- An object that such writes go to: the mark of what made it (where it was made in this region), its number, what it was, the writes with their marks. -/
abbrev Hid := Option Nat × Nat × AO × List (Nat × HW)

def applyW : AO → HW → AO
  | .cells n g e t, .cells o vs => .cells n g e (t.setAll o vs)
  | .map es _, .ins _ k v => .umap ((es.map fun e => (e.1, e.2.1)) ++ [(k, v)])
  | .umap es, .ins _ k v => .umap (es ++ [(k, v)])
  | o, _ => o
def applyWs (ob : AO) : List (Nat × HW) → AO
  | [] => ob
  | w :: ws => applyW (applyWs ob ws) w.2
def layH : List Hid → Tr AO → Tr AO
  | [], h => h
  | e :: es, h => (layH es h).set e.2.1 (some (applyWs e.2.2.1 e.2.2.2))

def apartW (o n : Nat) : List (Nat × HW) → Bool
  | [] => true
  | (_, .cells p vs) :: ws => ((Nat.ble (Nat.add o n) p).or (Nat.ble (Nat.add p vs.length) o)).and (apartW o n ws)
  | (_, .ins ..) :: _ => false
def otherK (kk : KK) (k : AV) : List (Nat × HW) → Bool
  | [] => true
  | (_, .ins jj j _) :: ws => match keyEq kk k j with
    | some false => match keyEq jj j k with
      | some false => otherK kk k ws
      | _ => false
    | _ => false
  | (_, .cells ..) :: _ => false

def findH (i : Nat) : List Hid → Option Hid
  | [] => none
  | e :: es => match Nat.beq e.2.1 i with | true => some e | false => findH i es
def dropH (i : Nat) (l : List Hid) : List Hid := l.filter fun e => (Nat.beq e.2.1 i).not
def findP (i : Nat) : List (Nat × Nat × AO) → Option (Nat × Nat × AO)
  | [] => none
  | e :: es => match Nat.beq e.2.1 i with | true => some e | false => findP i es
def dropP (i : Nat) (l : List (Nat × Nat × AO)) : List (Nat × Nat × AO) := l.filter fun e => (Nat.beq e.2.1 i).not

/-- The object that a write goes to is put out of sight. What made it must always stand ahead. -/
def hideO (mg : List Nat) (i : Nat) (h : Tr AO) (pend : List (Nat × Nat × AO)) (hid : List Hid) : Option (Hid × Tr AO × List (Nat × Nat × AO) × List Hid) :=
  match findH i hid with
  | some e => match (match e.1 with | none => true | some m => memN m mg) with
    | true => some (e, h, pend, dropH i hid)
    | false => none
  | none => match findP i pend with
    | some p => match memN p.1 mg with
      | true => some ((some p.1, i, p.2.2, []), h, dropP i pend, hid)
      | false => none
    | none => match h.get i with
      | some ob => some ((none, i, ob, []), h.set i none, pend, hid)
      | none => none

def hideW (mg : List Nat) (m : Nat) (op : AI) (t : Tr AV) (h : Tr AO) (pend : List (Nat × Nat × AO)) (hid : List Hid) : Option (Tr AO × List (Nat × Nat × AO) × List Hid) :=
  match op with
  | .store size a x => match evA t a with
    | .ptr i o => match cellsO (evA t x) with
      | some vs => match Nat.beq vs.length size with
        | true => match hideO mg i h pend hid with
          | some ((mk, i, ob, ws), h, pend, hid) => match ob with
            | .cells n _ _ _ => match (Nat.ble (Nat.add o vs.length) n).and (apartW o vs.length ws) with
              | true => some (h, pend, (mk, i, ob, (m, .cells o vs) :: ws) :: hid)
              | false => none
            | _ => none
          | none => none
        | false => none
      | none => none
    | _ => none
  | .mapUpd kk mp k v => match evA t mp with
    | .map i => match hideO mg i h pend hid with
      | some ((mk, i, ob, ws), h, pend, hid) => match ob with
        | .map [] _ => match (keyOk kk (evA t k)).and (otherK kk (evA t k) ws) with
          | true => some (h, pend, (mk, i, ob, (m, .ins kk (evA t k) (evA t v)) :: ws) :: hid)
          | false => none
        | _ => none
      | none => none
    | _ => none
  | _ => none

def evD {α : Type} (C : Cfg) (ih : Rec α) : List DOp → St → List (Nat × Nat × AO) → List Seen → List Hid → (St → R α) → R α
  | [], s, pend, _, hid, k => k ⟨s.t, s.d, layH hid (lay pend s.h), s.nx, s.pc⟩
  | d :: ds, s, pend, seen, hid, k => guarded d.o.guard s
      (fun s => match d.cls with
        | 0 => match evPR s.t (lay pend s.h) d.o.op with
          | some v => evD C ih ds ⟨put s.t d.o.dst v, s.d, s.h, s.nx, s.pc⟩ pend ((d.mark, d.o.op, s.t, v) :: seen) hid k
          | none => match d.o.op with
            | .pick c a b => withB s.pc (evA s.t c) fun x pc => evD C ih ds ⟨put s.t d.o.dst (match x with | true => evA s.t a | false => evA s.t b), s.d, s.h, s.nx, pc⟩ pend seen hid k
            | _ => .fail 40
        | 1 => match evNew s.t s.nx d.o.op with
          | some (o, v) => evD C ih ds ⟨put s.t d.o.dst v, s.d, s.h, Nat.succ s.nx, s.pc⟩ ((d.mark, s.nx, o) :: pend) seen hid k
          | none => .fail 41
        | 2 => match splitP d.mg pend with
          | (now, later) => evE C ih d.o.op ⟨s.t, s.d, lay now s.h, s.nx, s.pc⟩ fun v s => match again d.re (lay later s.h) seen with
            | true => evD C ih ds ⟨put s.t d.o.dst v, s.d, s.h, s.nx, s.pc⟩ later seen hid k
            | false => .fail 42
        | _ => match hideW d.mg d.mark d.o.op s.t s.h pend hid with
          | some (h, pend, hid) => match again d.re (lay pend h) seen with
            | true => evD C ih ds ⟨put s.t d.o.dst AV.undef, s.d, h, s.nx, s.pc⟩ pend seen hid k
            | false => .fail 43
          | none => .fail 44)
      (fun s => evD C ih ds ⟨put s.t d.o.dst AV.undef, s.d, s.h, s.nx, s.pc⟩ pend seen hid k)

def stepC {α : Type} (C : Cfg) (ih : Rec α) : Rec α := fun c s k =>
  match c with
  | .skip => k .normal s
  | .seq a b => ih a s fun e s' => match e with
    | .normal => ih b s' k
    | e => k e s'
  | .region ops => evOps C ih ops s (k .normal)
  | .draw ops => evD C ih ops s [] [] [] (k .normal)
  | .cond c a b => withB s.pc (evA s.t c) fun x pc => match x with
    | true => ih a ⟨s.t, s.d, s.h, s.nx, pc⟩ k
    | false => ih b ⟨s.t, s.d, s.h, s.nx, pc⟩ k
  | .block id c => ih c s fun e s' => match e with
    | .exit j => match Nat.beq j id with
      | true => k .normal s'
      | false => k (.exit j) s'
    | e => k e s'
  | .loop c => ih c s fun e s' => match e with
    | .normal => ih (.loop c) s' k
    | e => k e s'
  | .exit id => k (.exit id) s
  | .ret => k .ret s
  | .bad n => .fail (Nat.add 2000 n)

def ev {α : Type} (C : Cfg) : Nat → Rec α
  | 0 => fun _ _ _ => .fail 0
  | n + 1 => stepC C (ev C n)

/-! ## The code of the model, turned -/
def ofVal : Nat → Value → Option AV
  | 0, _ => none
  | fuel + 1, v => match v with
    | .bool b => some (.bool b)
    | .int k n => some (.int k n)
    | .string s => some (.str s.data.toList.length (strOf s.data.toList))
    | .pointer none => some .nilp
    | .slice none 0 0 => some .nils
    | .map none => some .nilm
    | .nilFunc => some .nilf
    | .func (.func f) ⟨[]⟩ ⟨[]⟩ => some (.fn f [])
    | .nilIface => some .nili
    | .iface t v => match ofVal fuel v with
      | some a => some (.iface t a)
      | none => none
    | .agg ⟨l⟩ => match l.mapM (ofVal fuel) with
      | some l => match l.all oneA with
        | true => some (.agg l)
        | false => none
      | none => none
    | .tuple ⟨l⟩ => match l.mapM (ofVal fuel) with
      | some l => some (.tup l)
      | none => none
    | _ => none

/-- A slot that is never written, for what is not turned. -/
def noSlot : Nat := 1000000

def compO : Operand → Option AOp
  | .tmp t => some (.tmp t)
  | .const v => match ofVal 4 v with
    | some a => some (.val a)
    | none => none
  | .global g => match Nat.blt g gN with
    | true => some (.val (.ptr g 0))
    | false => none
  | .func f => some (.val (.fn f []))

def compOs : List Operand → Option (List AOp)
  | [] => some []
  | x :: xs => match compO x with
    | some y => match compOs xs with
      | some ys => some (y :: ys)
      | none => none
    | none => none

section
variable (P : Program)

structure TI where
  d : TypeDesc
  size : Nat
  bytes : Nat
  zero : Option AV

def tyI (t : TypeId) : Option TI :=
  match P.info? t with
  | some i => match P.underlying t with
    | some d => some ⟨d, i.size, i.bytes, i.zero.bind (ofVal 4)⟩
    | none => none
  | none => none

def isAggD : TypeDesc → Bool
  | .struct _ | .array .. => true
  | _ => false

def TI.cells (x : TI) : Option (List AV) := x.zero.bind cellsO

def flatGo (F : TypeId → Option (List CK)) : List Field → List CK → Option (List CK)
  | [], acc => some acc
  | f :: fs, acc => match (f.name != "_") && f.offset == acc.length with
    | true => match F f.type with
      | some l => match tyI P f.type with
        | some y => match y.size == l.length with
          | true => flatGo F fs (acc ++ l)
          | false => none
        | none => none
      | none => none
    | false => none

/-- The cells of a type that is compared cell by cell. -/
def flatKs : Nat → TypeId → Option (List CK)
  | 0, _ => none
  | d + 1, t => match P.underlying t with
    | some .bool => some [.bool]
    | some .string => some [.str]
    | some (.int _) => some [.int]
    | some (.struct fs) => match P.stoodInHeld t with
      | true => none
      | false => flatGo P (flatKs d) fs.toList []
    | _ => none

/-- A struct that is compared cell by cell. -/
def flatT (t : TypeId) : Option (List CK) :=
  match P.underlying t with
  | some (.struct _) => match P.eqGuardType P.depth t with
    | true => none
    | false => match flatKs P 8 t with
      | some l => match tyI P t with
        | some y => match y.size == l.length with
          | true => some l
          | false => none
        | none => none
      | none => none
  | _ => none

def keyT (t : TypeId) : Option KK :=
  match P.underlying t with
  | some .bool => some (.scal .bool)
  | some .string => some (.scal .str)
  | some (.int _) => some (.scal .int)
  | some (.struct _) => match flatT P t with
    | some l => some (.agg l)
    | none => none
  | _ => none

/-- What '==' asks of a type, where neither numbers nor strings are compared. -/
def eqT (t : TypeId) : EqK :=
  match P.underlying t with
  | some .bool => .bool
  | some (.pointer _) => .ptr
  | some (.slice _) => .slice
  | some (.map _ _) => .map
  | some (.func ..) => .func
  | some (.interface ms) => .iface ms.isEmpty
  | some (.struct _) => match flatT P t with
    | some l => .agg l
    | none => .bad
  | _ => .bad

def parts (fs : Array Field) : List (Nat × Operand) → Option (List (Nat × Nat × AOp))
  | [] => some []
  | (i, x) :: r => match fs[i]? with
    | some f => match tyI P f.type with
      | some y => match compO x with
        | some a => match parts fs r with
          | some l => some ((f.offset, y.size, a) :: l)
          | none => none
        | none => none
      | none => none
    | none => none

def partsOf (size : Nat) : List (Nat × Operand) → Option (List (Nat × Nat × AOp))
  | [] => some []
  | (i, x) :: r => match compO x with
    | some a => match partsOf size r with
      | some l => some ((i * size, size, a) :: l)
      | none => none
    | none => none

/-- All fields' types are there. -/
def fieldsOk (fs : Array Field) : Bool := fs.toList.all fun f => (tyI P f.type).isSome

def optO : Option Operand → Option (Option AOp)
  | none => some none
  | some x => (compO x).map some

def c1 (x : Operand) (f : AOp → AI) : AI := match compO x with | some a => f a | none => .bad 100
def c2 (x y : Operand) (f : AOp → AOp → AI) : AI := match compO x with | some a => (match compO y with | some b => f a b | none => .bad 101) | none => .bad 101
def c3 (x y z : Operand) (f : AOp → AOp → AOp → AI) : AI := match compO x with | some a => c2 y z (f a) | none => .bad 102
def cs (l : List Operand) (f : List AOp → AI) : AI := match compOs l with | some a => f a | none => .bad 103

def compI (o : Oper) : AI :=
  match o.op with
  | .move x | .assign x => c1 x .move
  | .pick c a b => c3 c a b .pick
  | .alloc t => match (tyI P t).bind TI.cells with | some z => .alloc z | none => .bad 1
  | .box _ x => c1 x .box
  | .build t ps => match tyI P t with
    | some y => match y.zero with
      | some (.agg z) => match y.d with
        | .struct fs => match fieldsOk P fs with
          | true => match parts P fs ps.toList with | some l => .build z l | none => .bad 2
          | false => .bad 2
        | .array _ e => match tyI P e with
          | some ye => match partsOf ye.size ps.toList with | some l => .build z l | none => .bad 2
          | none => .bad 2
        | _ => .bad 2
      | _ => .bad 2
    | none => .bad 2
  | .buildSlice t n ps => match tyI P t with
    | some y => match y.d with
      | .slice e => match tyI P e with
        | some ye => match ye.cells with
          | some z => match (z.length == ye.size) && (decide (n * ye.size ≤ 16777216)) with
            | true => match partsOf ye.size ps.toList with | some l => .buildSlice ((List.replicate n z).flatten) n l | none => .bad 3
            | false => .bad 3
          | none => .bad 3
        | none => .bad 3
      | _ => .bad 4
    | none => .bad 4
  | .insert t m k v | .mapUpdate t m k v => match P.underlying t with
    | some (.map kt _) => match keyT P kt with
      | some fl => c3 m k v (.mapUpd fl)
      | none => .bad 5
    | _ => .bad 6
  | .load t a => match tyI P t with
    | some y => c1 a (.load (isAggD y.d) y.size)
    | none => .bad 42
  | .store t a x => match tyI P t with
    | some y => c2 a x (.store y.size)
    | none => .bad 43
  | .nilCheck x => c1 x .nilCheck
  | .binOp op t x y _ => c2 x y (.bin op (eqT P t))
  | .unOp op _ x => c1 x (.un op)
  | .convert s d x => match P.underlying s, P.underlying d with
    | some (.int _), some (.int k) => c1 x (.convInt k)
    | some .string, some .string => c1 x .convSame
    | some (.int _), some .string => c1 x .intToStr
    | some .string, some (.slice e) => match P.underlying e with | some (.int .u8) => c1 x .strToBytes | _ => .bad 7
    | _, _ => .bad 8
  | .makeInterface t x => match P.underlying t with
    | some (.interface _) => .bad 44
    | some _ => c1 x (.mkIface t)
    | none => .bad 44
  | .typeAssert x _ a ok => match tyI P a with
    | some y => match y.d with
      | .interface _ => .bad 9
      | _ => match y.zero with | some z => c1 x (.assertTo a z ok) | none => .bad 10
    | none => .bad 9
  | .makeFunc (.func f) first caps => match first.toList with
    | [] => cs caps.toList (.mkFunc f [])
    | _ => .bad 45
  | .makeMap _ none => .mkMap
  | .makeMap .. => .bad 46
  | .makeSlice t l c => match tyI P t with
    | some y => match y.d with
      | .slice e => match tyI P e with
        | some ye => match ye.cells with
          | some z => match z.length == ye.size with
            | true => c2 l c (.mkSlice z ye.size ye.bytes)
            | false => .bad 11
          | none => .bad 11
        | none => .bad 11
      | _ => .bad 12
    | none => .bad 12
  | .slice t x l h m => match P.underlying t, optO l, optO h, optO m with
    | some .string, some l, some h, some none => c1 x fun a => .sliceStr a l h
    | some (.slice e), some l, some h, some m => match tyI P e with
      | some y => c1 x fun a => .sliceSl y.size a l h m
      | none => .bad 13
    | some (.array n e), some l, some h, some m => match tyI P e with
      | some y => c1 x fun a => .sliceArr y.size n a l h m
      | none => .bad 13
    | _, _, _, _ => .bad 13
  | .fieldAddr t x f => match P.underlying t with
    | some (.struct fs) => match fs[f]? with
      | some g => match tyI P g.type with
        | some y => match y.size == 0 with
          | false => c1 x (.fieldAddr g.offset)
          | true => .bad 14
        | none => .bad 14
      | none => .bad 14
    | _ => .bad 15
  | .field t x f => match P.underlying t with
    | some (.struct fs) => match fs[f]? with
      | some g => match tyI P g.type with
        | some y => c1 x (.field (isAggD y.d) y.size g.offset)
        | none => .bad 16
      | none => .bad 16
    | _ => .bad 17
  | .indexAddr t x i => match P.underlying t with
    | some (.slice e) => match tyI P e with
      | some y => c2 x i (.indexSl y.size)
      | none => .bad 18
    | some (.array n e) => match tyI P e with
      | some y => c2 x i (.indexArrAddr y.size n)
      | none => .bad 18
    | _ => .bad 18
  | .index t x i => match P.underlying t with
    | some .string => c2 x i .indexStr
    | some (.array n e) => match tyI P e with
      | some y => c2 x i (.indexArr (isAggD y.d) y.size n)
      | none => .bad 19
    | _ => .bad 19
  | .lookup t m k ok => match P.underlying t with
    | some (.map kt e) => match (tyI P e).bind TI.zero with
      | some z => match keyT P kt with
        | some fl => c2 m k (.lookup fl z ok)
        | none => .bad 20
      | none => .bad 21
    | _ => .bad 22
  | .mapEntry t m k => match P.underlying t with
    | some (.map kt e) => match (tyI P e).bind TI.zero with
      | some z => match keyT P kt with
        | some fl => c2 m k (.mapEntry fl z)
        | none => .bad 23
      | none => .bad 24
    | _ => .bad 25
  | .entryStore _ m s v => c3 m s v .entryStore
  | .range t x => match P.underlying t with
    | some .string => c1 x .rangeStr
    | some (.map _ _) => c1 x .rangeMap
    | _ => .bad 26
  | .next x true => c1 x .nextStr
  | .next x false => c1 x .nextMap
  | .entry x => c1 x .entry
  | .extract x i => c1 x fun a => .extract a i
  | .call c => match c.callee with
    | .value (.func f) => cs c.args.toList (.callF f)
    | .value f => match compO f with | some g => cs c.args.toList (.callV g) | none => .bad 47
    | .builtin .len => match c.argTypes[0]?, c.args.toList with
      | some t, [x] => match P.underlying t with
        | some .string => c1 x .lenStr
        | some (.slice _) => c1 x .lenSl
        | some (.map ..) => c1 x .lenMap
        | some (.array n _) => .lenArr n
        | _ => .bad 27
      | _, _ => .bad 28
    | .builtin .append => match c.argTypes.toList, c.args.toList with
      | [t, u], [s, x] => match P.underlying t, u == t with
        | some (.slice e), true => match tyI P e with
          | some y => match y.cells with
            | some z => match z.length == y.size with
              | true => c2 s x (.append y.size y.bytes e)
              | false => .bad 29
            | none => .bad 29
          | none => .bad 29
        | _, _ => .bad 30
      | _, _ => .bad 31
    | .builtin .copy => match c.argTypes.toList, c.args.toList with
      | [t, _], [a, b] => match P.underlying t with
        | some (.slice e) => match tyI P e with
          | some y => c2 a b (.copy y.size)
          | none => .bad 32
        | _ => .bad 32
      | _, _ => .bad 33
    | .builtin .max => match c.args.toList with | [x, y] => c2 x y fun a b => .maxi a [b] | _ => .bad 34
    | .builtin .min => match c.args.toList with | [x, y] => c2 x y fun a b => .mini a [b] | _ => .bad 34
    | .builtin .delete => match c.argTypes.toList, c.args.toList with
      | [t, _], [m, k] => match P.underlying t with
        | some (.map kt _) => match keyT P kt with
          | some fl => c2 m k (.delete fl)
          | none => .bad 35
        | _ => .bad 36
      | _, _ => .bad 37
    | .builtin .recover => .recover
    | _ => .bad 38
  | .defer c => match c.callee with
    | .value f => match compO f with | some g => cs c.args.toList (.deferF g) | none => .bad 47
    | _ => .bad 39
  | .panic _ => .bad 40
  | _ => .bad 41

def compOper (ops : Array Oper) (o : Oper) : AOper :=
  match o.guard with
  | none => { dst := o.dst, op := compI P o, guard := none }
  | some (j, want) => match (ops[j]?).bind (·.dst) with
    | some d => { dst := o.dst, op := compI P o, guard := some (d, want) }
    | none => { dst := o.dst, op := .bad 48, guard := none }

/-! ### Regions that draw -/
/-- Does an edge bind, whatever order is drawn? -/
def bindsE (e : Edge) : Bool := match e.ground with | .textOnly _ => false | .gcOnly _ => false | _ => true
def depsM (o : Oper) : Nat := o.after.toList.foldl (fun m e => match bindsE e with | true => Nat.lor m (Nat.pow 2 e.on) | false => m) 0
/-- Of each operation the set of those that always stand ahead of it. -/
def befM : List Oper → List Nat → List Nat
  | [], acc => acc
  | o :: os, acc => befM os (acc ++ [o.after.toList.foldl (fun m e => match bindsE e with | true => Nat.lor (Nat.lor m (Nat.pow 2 e.on)) (acc.getD e.on 0) | false => m) 0])
def bit (m i : Nat) : Bool := Nat.beq (Nat.mod (Nat.div m (Nat.pow 2 i)) 2) 1
def clsOf : AI → Nat
  | .alloc _ | .box _ | .buildSlice .. | .mkMap | .mkSlice .. | .rangeStr _ => 1
  | .store .. | .append .. | .copy .. | .mapUpd .. | .mapEntry .. | .entryStore .. | .delete .. | .strToBytes _ | .rangeMap _ | .nextStr _ | .nextMap _
  | .callF .. | .callV .. | .recover | .deferF .. | .bad _ => 2
  | _ => 0
/-- The first that is due: of those that reckon, read, make; of those whose place is open; of all. -/
def dueOf (cls deps : List Nat) (done lvl : Nat) : List Nat → Option Nat
  | [] => none
  | i :: is => match (Nat.beq (Nat.land (deps.getD i 0) done) (deps.getD i 0)).and (match lvl with | 0 => Nat.ble (cls.getD i 0) 1 | 1 => (Nat.beq (cls.getD i 0) 2).not | _ => true) with
    | true => some i
    | false => dueOf cls deps done lvl is
def dueAny (cls deps : List Nat) (done : Nat) (left : List Nat) : Option Nat :=
  match dueOf cls deps done 0 left with
  | some i => some i
  | none => match dueOf cls deps done 1 left with
    | some i => some i
    | none => dueOf cls deps done 2 left
def orderOf (cls deps : List Nat) : Nat → Nat → List Nat → List Nat
  | 0, _, _ => []
  | n + 1, done, left => match dueAny cls deps done left with
    | some i => i :: orderOf cls deps n (Nat.lor done (Nat.pow 2 i)) (left.erase i)
    | none => []
def freeW : AI → Bool
  | .store .. | .mapUpd .. => true
  | _ => false
/-- Writes that no edge sets against another that writes. -/
def openOf (bef cls : List Nat) (i : Nat) : Bool :=
  (List.range cls.length).any fun j => ((Nat.beq i j).not.and (Nat.beq (cls.getD j 0) 2)).and ((bit (bef.getD i 0) j).not.and (bit (bef.getD j 0) i).not)
def clsR (aops : List AOper) (bef cls : List Nat) : List Nat :=
  (List.range cls.length).map fun i => match ((Nat.beq (cls.getD i 0) 2).and (freeW (aops.getD i default).op)).and (openOf bef cls i) with
    | true => 3
    | false => cls.getD i 0
def mkDraw (ops : List AOper) (bef cls : List Nat) : List Nat → List Nat → List DOp
  | [], _ => []
  | i :: is, past => ⟨ops.getD i default, i, cls.getD i 0, past.filter fun j => (Nat.beq (cls.getD j 0) 0).and (bit (bef.getD i 0) j).not,
      past.filter fun j => (Nat.beq (cls.getD j 0) 1).and (bit (bef.getD i 0) j)⟩ :: mkDraw ops bef cls is (i :: past)
def drawOf (ops : List Oper) (aops : List AOper) : List DOp :=
  let bef := befM ops []
  let cls := clsR aops bef (aops.map fun a => clsOf a.op)
  mkDraw aops bef cls (orderOf cls (ops.map depsM) ops.length 0 (List.range ops.length)) []

/-- What always stands ahead. -/
def depsL (o : Oper) : List Nat := o.after.toList.filterMap fun e => match bindsE e with | true => some e.on | false => none
def maskL (f : Nat → Nat) : List Nat → Nat
  | [] => 0
  | j :: js => Nat.lor (Nat.lor (Nat.pow 2 j) (f j)) (maskL f js)
/-- The mark, the class, all that always stands ahead. -/
abbrev Past := List (Nat × Nat × Nat)
def ancOf : Past → Nat → Nat
  | [], _ => 0
  | p :: ps, j => match Nat.beq p.1 j with | true => p.2.2 | false => ancOf ps j
def isPast : Past → Nat → Bool
  | [], _ => false
  | p :: ps, j => match Nat.beq p.1 j with | true => true | false => isPast ps j
/-- What an operation looks at and an earlier one wrote, that one stands always ahead; what it writes and an earlier one looked at, it stands always behind; no slot is written twice. -/
def slotsOk (ops : Array Oper) (o : Oper) (dl : List Nat) (anc : Nat) : Past → Bool
  | [] => true
  | p :: ps => (match ops[p.1]? with
      | none => false
      | some q => (match q.dst with
          | none => true
          | some x => ((memN x (o.looksAt ops)).not.or (memN p.1 dl)).and (match o.dst with | none => true | some y => (Nat.beq x y).not)).and
        (match o.dst with
          | none => true
          | some y => (memN y (q.looksAt ops)).not.or (anc.testBit p.1))).and (slotsOk ops o dl anc ps)
def okE (d : DOp) (anc : Nat) : Past → Bool
  | [] => true
  | p :: ps => (((Nat.beq p.2.1 0).not.or (memN p.1 d.re)).or (anc.testBit p.1)).and (((memN p.1 d.mg).not.or (anc.testBit p.1)).and (okE d anc ps))
def okG (ops : Array Oper) : List DOp → Past → Option Nat → Bool
  | [], _, _ => true
  | d :: ds, past, lastE => match ops[d.mark]? with
    | none => false
    | some o =>
      let dl := depsL o
      let anc := maskL (ancOf past) dl
      ((isPast past d.mark).not).and ((dl.all fun j => isPast past j).and ((slotsOk ops o dl anc past).and
        ((match lastE with | none => true | some e => anc.testBit e).and
        ((match Nat.ble 2 d.cls with | true => okE d anc past | false => true).and
        (okG ops ds ((d.mark, d.cls, anc) :: past) (match Nat.beq d.cls 2 with | true => some d.mark | false => lastE))))))
def markIn : List DOp → Nat → Bool
  | [], _ => false
  | d :: ds, i => match Nat.beq d.mark i with | true => true | false => markIn ds i
def okD (ops : Array Oper) (ds : List DOp) : Bool := ((List.range ops.size).all fun i => markIn ds i).and (okG ops ds [] none)

/-- The slots that are written are there; the regions that draw are such as the evaluator takes them. -/
def checkOps (n : Nat) : List Oper → Bool
  | [] => true
  | o :: os => (match o.dst with | none => true | some d => Nat.blt d n).and (checkOps n os)
def checkC (n : Nat) : Code → Bool
  | .region _ ops draw => (checkOps n ops.toList).and (match draw with | false => true | true => okD ops (drawOf ops.toList (ops.toList.map (compOper P ops))))
  | .seq a b => (checkC n a).and (checkC n b)
  | .cond _ a b => (checkC n a).and (checkC n b)
  | .block _ c => checkC n c
  | .loop c => checkC n c
  | .scope c => checkC n c
  | _ => true

def compC : Code → ACode
  | .skip => .skip
  | .region _ ops draw => match draw with
    | false => .region (ops.toList.map (compOper P ops))
    | true => .draw (drawOf ops.toList (ops.toList.map (compOper P ops)))
  | .seq a b => .seq (compC a) (compC b)
  | .cond c a b => match compO c with
    | some x => .cond x (compC a) (compC b)
    | none => .bad 4
  | .block id c => .block id (compC c)
  | .loop c => .loop (compC c)
  | .exit id => .exit id
  | .scope c => compC c
  | .label _ => .skip
  | .ret => .ret
  | .goto _ => .bad 1
  | .rangeFunc .. => .bad 2
  | .refuse _ => .bad 3

def resOf : List ResultVar → Option (List ARes)
  | [] => some []
  | .tmp t :: r => match resOf r with
    | some l => some (.tmp t :: l)
    | none => none
  | .cell a t :: r => match tyI P t with
    | some y => match resOf r with
      | some l => some (.cell a (isAggD y.d) y.size :: l)
      | none => none
    | none => none

def compF (f : FuncId) : Option AFn :=
  match P.funcs[f]? with
  | none => none
  | some fn => match fn.body with
    | none => none
    | some c => match resOf P fn.results.toList with
      | some r => match checkC P fn.ntmps c with
        | true => some { ntmps := fn.ntmps, body := compC P c, res := r }
        | false => none
      | none => none
end
end Ct
