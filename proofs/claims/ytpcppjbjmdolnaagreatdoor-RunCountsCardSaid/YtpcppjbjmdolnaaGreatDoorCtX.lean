/- The evaluator, laid out for the kernel: what stands in the state is always a normal form; what goes on stands at the head. -/
import Derived.Test.YtpcppjbjmdolnaaGreatDoorCtB
namespace Ct
open Go

noncomputable section
variable {α β γ : Type}

/-! ## Forcing -/
def fN (n : Nat) (c : Nat → β) : β := Nat.rec (motive := fun _ => β) (c 0) (fun p _ => c (Nat.succ p)) n
def fI (i : Int) (c : Int → β) : β := Int.casesOn (motive := fun _ => β) i (fun n => fN n fun n => c (.ofNat n)) (fun n => fN n fun n => c (.negSucc n))
def fB (b : Bool) (c : Bool → β) : β := Bool.casesOn (motive := fun _ => β) b (c false) (c true)
def iteB (b : Bool) (y n : β) : β := Bool.casesOn (motive := fun _ => β) b n y
def onSome (o : Option γ) (c : γ → β) (d : β) : β := Option.casesOn (motive := fun _ => β) o d c
def fL (f : γ → (γ → β) → β) (l : List γ) : (List γ → β) → β :=
  List.rec (motive := fun _ => (List γ → β) → β) (fun c => c []) (fun v _ ih c => f v fun v => ih fun l => c (v :: l)) l
def fO (o : Option Nat) (c : Option Nat → β) : β := Option.casesOn (motive := fun _ => β) o (c none) fun n => fN n fun n => c (some n)

def fS (v : AV) (c : AV → β) : β := match v with
  | .int k n => fI n fun n => c (.int k n)
  | .bool b => fB b fun b => c (.bool b)
  | .str n x => fN n fun n => fN x fun x => c (.str n x)
  | .ptr i o => fN i fun i => fN o fun o => c (.ptr i o)
  | .slice i o n k => fN i fun i => fN o fun o => fN n fun n => fO k fun k => c (.slice i o n k)
  | .map i => fN i fun i => c (.map i)
  | v => c v
def fA (v : AV) (c : AV → β) : β := match v with
  | .agg l => fL fS l fun l => c (.agg l)
  | v => fS v c
def fV (v : AV) (c : AV → β) : β := match v with
  | .tup l => fL fA l fun l => c (.tup l)
  | v => fA v c

/-! ## Tries -/
def pathOf (k : Nat) : List Bool :=
  Nat.rec (motive := fun _ => Nat → List Bool) (fun _ => []) (fun _ ih k => Nat.casesOn (motive := fun _ => List Bool) k [] fun k => (Nat.beq (Nat.mod k 2) 0) :: ih (Nat.div k 2)) (Nat.succ k) k

def getF (p : List Bool) : Tr γ → (γ → β) → β → β :=
  List.rec (motive := fun _ => Tr γ → (γ → β) → β → β)
    (fun t c d => Tr.casesOn (motive := fun _ => β) t d (fun v _ _ => Option.casesOn (motive := fun _ => β) v d c))
    (fun b _ ih t c d => Tr.casesOn (motive := fun _ => β) t d (fun _ l r => ih (Bool.casesOn (motive := fun _ => Tr γ) b r l) c d)) p

def setF (x : Option γ) (p : List Bool) : Tr γ → (Tr γ → β) → β :=
  List.rec (motive := fun _ => Tr γ → (Tr γ → β) → β)
    (fun t c => Tr.casesOn (motive := fun _ => β) t (c (.node x .leaf .leaf)) (fun _ l r => c (.node x l r)))
    (fun b _ ih t c => Tr.casesOn (motive := fun _ => β) t
      (Bool.casesOn (motive := fun _ => β) b (ih .leaf fun r => c (.node none .leaf r)) (ih .leaf fun l => c (.node none l .leaf)))
      (fun v l r => Bool.casesOn (motive := fun _ => β) b (ih r fun r => c (.node v l r)) (ih l fun l => c (.node v l r)))) p

/-- A row of values into a trie. -/
def setAllF (xs : List AV) : Nat → Tr AV → (Tr AV → β) → β :=
  List.rec (motive := fun _ => Nat → Tr AV → (Tr AV → β) → β) (fun _ t c => c t)
    (fun x _ ih k t c => setF (some x) (pathOf k) t fun t => fN (Nat.succ k) fun k => ih k t c) xs

def getAllF (n : Nat) : Nat → Tr AV → (List AV → β) → β → β :=
  Nat.rec (motive := fun _ => Nat → Tr AV → (List AV → β) → β → β) (fun _ _ c _ => c [])
    (fun _ ih k t c d => getF (pathOf k) t (fun x => fN (Nat.succ k) fun k => ih k t (fun xs => c (x :: xs)) d) d) n

def lenF (l : List γ) : (Nat → β) → β := List.rec (motive := fun _ => (Nat → β) → β) (fun c => c 0) (fun _ _ ih c => ih fun n => fN (Nat.succ n) c) l
def appF (a b : List γ) : (List γ → β) → β := List.rec (motive := fun _ => (List γ → β) → β) (fun c => c b) (fun x _ ih c => ih fun l => c (x :: l)) a

/-! ## Operands -/
def opF (x : AOp) (t : Tr AV) (c : AV → β) : β := AOp.casesOn (motive := fun _ => β) x (fun i => getF (pathOf i) t c (c AV.undef)) c
def opsF (xs : List AOp) : Tr AV → (List AV → β) → β :=
  List.rec (motive := fun _ => Tr AV → (List AV → β) → β) (fun _ c => c []) (fun x _ ih t c => opF x t fun v => ih t fun l => c (v :: l)) xs

def onPtr (v : AV) (c : Nat → Nat → β) (d : β) : β := match v with | .ptr i o => c i o | _ => d
def onMap (v : AV) (c : Nat → β) (d : β) : β := match v with | .map i => c i | _ => d
def onCells (o : AO) (c : Nat → Nat → Nat → Tr AV → β) (d : β) : β := match o with | .cells n g e t => c n g e t | _ => d

/-! ## What reckons, or reads -/
def ldF (agg : Bool) (size : Nat) (v : AV) (h : Tr AO) (c : AV → β) (d : β) : β :=
  onPtr v (fun i o => getF (pathOf i) h (fun b => onCells b (fun m _ _ t =>
    iteB agg (iteB (Nat.ble (Nat.add o size) m) (getAllF size o t (fun l => c (.agg l)) d) d)
      (iteB (Nat.blt o m) (getF (pathOf o) t c d) d)) d) d) d

/-- The first cells, and the rest. -/
def skipF (n : Nat) : List AV → (List AV → List AV → β) → β :=
  Nat.rec (motive := fun _ => List AV → (List AV → List AV → β) → β) (fun cs c => c [] cs)
    (fun _ ih cs c => List.casesOn (motive := fun _ => β) cs (c [] []) (fun x xs => ih xs fun a b => c (x :: a) b)) n
/-- 'vs' over the beginning of 'cs'. -/
def overF (vs : List AV) : List AV → (List AV → β) → β :=
  List.rec (motive := fun _ => List AV → (List AV → β) → β) (fun cs c => c cs)
    (fun v _ ih cs c => List.casesOn (motive := fun _ => β) cs (c []) (fun _ xs => ih xs fun l => c (v :: l))) vs
def overlayF (off : Nat) (vs : List AV) (cs : List AV) (c : List AV → β) : β := skipF off cs fun a b => overF vs b fun b => appF a b c

def cellsF (v : AV) (c : List AV → β) (d : β) : β := match v with
  | .agg l => c l
  | .tup _ => d
  | v => c [v]

def fillF (t : Tr AV) (ps : List (Nat × Nat × AOp)) : List AV → (List AV → β) → β → β :=
  List.rec (motive := fun _ => List AV → (List AV → β) → β → β) (fun cs c _ => c cs)
    (fun p _ ih cs c d => Prod.casesOn (motive := fun _ => β) p fun off q => Prod.casesOn (motive := fun _ => β) q fun size x =>
      opF x t fun v => cellsF v (fun vs => lenF vs fun n => lenF cs fun m => iteB ((Nat.beq n size).and (Nat.ble (Nat.add off size) m)) (overlayF off vs cs fun cs => ih cs c d) d) d) ps

def evPRF (op : AI) (t : Tr AV) (h : Tr AO) (c : AV → β) (d : β) : β :=
  match op with
  | .move x => opF x t c
  | .build z ps => fillF t ps z (fun cs => c (.agg cs)) d
  | .load agg size a => opF a t fun p => ldF agg size p h c d
  | .bin op flat x y => opF x t fun v => opF y t fun w => onSome (evBin op flat v w) (fun v => fS v c) d
  | .mkIface ty x => opF x t fun v => c (.iface ty v)
  | .mkFunc f first caps => match first with
    | [] => opsF caps t fun l => c (.fn f l)
    | _ => d
  | .fieldAddr off x => opF x t fun v => onPtr v (fun i o => fN (Nat.add o off) fun o => c (.ptr i o)) d
  | .indexSl size x i => opF x t fun v => opF i t fun w => match v with
    | .slice b o n _ => onSome (natOf w) (fun j => iteB (Nat.blt j n) (fN (Nat.add o (Nat.mul j size)) fun o => c (.ptr b o)) d) d
    | _ => d
  | .indexStr x i => opF x t fun v => opF i t fun w => match v with
    | .str n s => onSome (natOf w) (fun j => iteB (Nat.blt j n) (fN (strByte s j) fun b => c (.int .u8 (.ofNat b))) d) d
    | _ => d
  | .extract x i => opF x t fun v => match v with
    | .tup l => onSome l[i]? c d
    | _ => d
  | .lenStr x => opF x t fun v => match v with
    | .str n _ => c (.int .i64 (.ofNat n))
    | _ => d
  | .lenSl x => opF x t fun v => match v with
    | .nils => c (.int .i64 0)
    | .emp => c (.int .i64 0)
    | .slice _ _ n _ => c (.int .i64 (.ofNat n))
    | .sslice _ _ n => c (.sint .i64 n)
    | _ => d
  | .alloc _ | .box _ | .buildSlice .. | .mkMap | .mkSlice .. | .rangeStr _ | .store .. | .append .. | .copy .. | .mapUpd .. | .mapEntry .. | .entryStore .. | .delete .. | .strToBytes _ | .rangeMap _ | .nextStr _ | .nextMap _
  | .callF .. | .callV .. | .recover | .deferF .. | .bad _ | .pick .. => d
  | op => onSome (evPR t h op) (fun v => fV v c) d

/-! ## What makes -/
def evNewF (op : AI) (t : Tr AV) (i : Nat) (c : AO → AV → β) (d : β) : β :=
  match op with
  | .alloc z => lenF z fun n => setAllF z 0 .leaf fun b => c (.cells n 0 0 b) (.ptr i 0)
  | .box x => opF x t fun v => cellsF v (fun cs => lenF cs fun n => setAllF cs 0 .leaf fun b => c (.cells n 0 0 b) (.ptr i 0)) d
  | .buildSlice z n ps => fillF t ps z (fun cs => lenF cs fun m => setAllF cs 0 .leaf fun b => c (.cells m 0 0 b) (.slice i 0 n (some n))) d
  | .mkMap => c (.map [] 0) (.map i)
  | .mkSlice z _ bytes l k => opF l t fun a => opF k t fun b => onSome (natOf a) (fun n => onSome (natOf b) (fun m => iteB (((Nat.ble n m).and (Nat.ble 1 bytes)).and (Nat.ble (Nat.mul m bytes) 70368744177664))
      (fL (fun v c => c v) ((List.replicate m z).flatten) fun cs => lenF cs fun q => setAllF cs 0 .leaf fun tr => c (.cells q 0 0 tr) (.slice i 0 n (some m))) d) d) d
  | .rangeStr x => opF x t fun v => match v with
    | .str n s => c (.siter n s 0) (.ptr i 0)
    | _ => d
  | _ => d

/-! ## What writes -/
def stF (i o : Nat) (vs : List AV) (h : Tr AO) (c : Tr AO → β) (d : β) : β :=
  getF (pathOf i) h (fun b => onCells b (fun m g e t => lenF vs fun n => iteB (Nat.ble (Nat.add o n) m) (setAllF vs o t fun t => setF (some (.cells m g e t)) (pathOf i) h c) d) d) d

def rowF (size n : Nat) (x : AV) (h : Tr AO) (c : List AV → β) (d : β) : β := match x with
  | .slice i o _ _ => getF (pathOf i) h (fun b => onCells b (fun m _ _ t => fN (Nat.mul n size) fun q => iteB (Nat.ble (Nat.add o q) m) (getAllF q o t c d) d) d) d
  | _ => d

/-- What is appended to a slice whose room isn't known, or that there is none: a new array. -/
def freshF (cs : List AV) (n size e : Nat) (h : Tr AO) (nx : Nat) (c : AV → Tr AO → Nat → β) : β :=
  lenF cs fun len => setAllF cs 0 .leaf fun b => setF (some (.cells len size e b)) (pathOf nx) h fun h => fN (Nat.succ nx) fun nx' => c (.slice nx 0 n none) h nx'

def appendF (size bytes e : Nat) (h : Tr AO) (nx : Nat) (s x : AV) (c : AV → Tr AO → Nat → β) (d : β) : β :=
  onSome (srcLen x) (fun len => Nat.casesOn (motive := fun _ => β) len
    (match s with
      | .nils => c .nils h nx
      | .emp => c .emp h nx
      | .slice i o n k => c (.slice i o n k) h nx
      | _ => d)
    (fun k' => fN (Nat.succ k') fun k => rowF size k x h (fun new => match s with
      | .nils => iteB (((Nat.ble 1 bytes).and (Nat.ble 1 size)).and (Nat.ble (Nat.mul k bytes) 35184372088832)) (freshF new k size e h nx c) d
      | .slice i o n cp => iteB (((Nat.ble 1 bytes).and (Nat.ble 1 size)).and (Nat.ble (Nat.mul (Nat.add n k) bytes) 35184372088832))
        (fN (Nat.add n k) fun nk => match cp with
          | some cp => iteB (Nat.ble nk cp) (fN (Nat.add o (Nat.mul n size)) fun at' => stF i at' new h (fun h => c (.slice i o nk (some cp)) h nx) d)
            (rowF size n (.slice i o n (some cp)) h (fun old => appF old new fun cs => freshF cs nk size e h nx c) d)
          | none => Nat.casesOn (motive := fun _ => β) o
            (getF (pathOf i) h (fun b => onCells b (fun m g e' t => fN (Nat.mul n size) fun q => iteB (((Nat.beq g size).and (Nat.beq e' e)).and (Nat.ble q m))
              (setAllF new q t fun t => setF none (pathOf i) h fun h => fN (Nat.mul nk size) fun z => setF (some (.cells z size e t)) (pathOf nx) h fun h => fN (Nat.succ nx) fun nx' => c (.slice nx 0 nk none) h nx') d) d) d)
            (fun _ => d)) d
      | _ => d) d))
    d

/-- Map entries, forced. -/
def fE (e : AV × AV × Nat) (c : AV × AV × Nat → β) : β := Prod.casesOn (motive := fun _ => β) e fun k q => Prod.casesOn (motive := fun _ => β) q fun v b => fA k fun k => fA v fun v => fN b fun b => c (k, v, b)
def fU (e : AV × AV) (c : AV × AV → β) : β := Prod.casesOn (motive := fun _ => β) e fun k v => fA k fun k => fA v fun v => c (k, v)
/-- An object, forced: one that is no row of cells. -/
def fObj (o : AO) (c : AO → β) : β := match o with
  | .map es clock => fL fE es fun es => fN clock fun clock => c (.map es clock)
  | .umap es => fL fU es fun es => c (.umap es)
  | .siter n x pos => fN pos fun pos => c (.siter n x pos)
  | .miter m since seen st => fO m fun m => fN since fun since => fL fN seen fun seen => fN st fun st => c (.miter m since seen st)
  | o => c o

/-- What a write to one object makes: the value, the object's number, the object. -/
def updE (op : AI) (t : Tr AV) (h : Tr AO) : Option (AV × Nat × AO) :=
  match op with
  | .mapUpd flat m key v => match evA t m with
    | .map i => match h.get i with
      | some (.map es clock) => match findK flat (evA t key) es with
        | some (some (j, _)) => some (AV.undef, i, .map (es.modify j fun e => (evA t key, evA t v, e.2.2)) clock)
        | some none => some (AV.undef, i, .map (es ++ [(evA t key, evA t v, clock)]) (Nat.succ clock))
        | none => none
      | some (.umap es) => match keyOk flat (evA t key) with
        | true => match findU flat (evA t key) es with
          | some none => some (AV.undef, i, .umap (es ++ [(evA t key, evA t v)]))
          | _ => none
        | false => none
      | _ => none
    | _ => none
  | .mapEntry flat z m key => match evA t m with
    | .map i => match h.get i with
      | some (.map es clock) => match findK flat (evA t key) es with
        | some (some (j, v)) => match es[j]? with
          | some e => some (.tup [v, .int .i64 (.ofNat e.2.2)], i, .map (es.modify j fun e => (evA t key, e.2)) clock)
          | none => none
        | some none => some (.tup [z, .int .i64 (.ofNat clock)], i, .map (es ++ [(evA t key, z, clock)]) (Nat.succ clock))
        | none => none
      | _ => none
    | _ => none
  | .entryStore m st v => match evA t m with
    | .map i => match h.get i with
      | some (.map es clock) => match natOf (evA t st) with
        | some b => match es.findIdx? (fun e => Nat.beq e.2.2 b) with
          | some j => some (AV.undef, i, .map (es.modify j fun e => (e.1, evA t v, e.2.2)) clock)
          | none => none
        | none => none
      | _ => none
    | _ => none
  | .nextStr x => match evA t x with
    | .ptr i 0 => match h.get i with
      | some (.siter n y pos) => match Nat.blt pos n with
        | false => none
        | true => match Nat.blt (strByte y pos) 128 with
          | true => some (.tup [.bool true, .int .i64 (.ofNat pos), .int .i32 (.ofNat (strByte y pos))], i, .siter n y (Nat.succ pos))
          | false => none
      | _ => none
    | _ => none
  | _ => none

def putF (d : Option Nat) (v : AV) (t : Tr AV) (c : Tr AV → β) : β := Option.casesOn (motive := fun _ => β) d (c t) (fun i => setF (some v) (pathOf i) t c)

def chF (l : List γ) (f : γ → R α) : R α :=
  List.rec (motive := fun _ => R α) (.fail 26) (fun x xs ih => List.casesOn (motive := fun _ => R α) xs (f x) (fun _ _ => .both (f x) ih)) l

/-! ## Control -/
def withF (pc : List (SB × Bool)) (v : AV) (k : Bool → List (SB × Bool) → R α) : R α := match v with
  | .bool b => fB b fun b => k b pc
  | v => withB pc v k

def resF (t : Tr AV) (h : Tr AO) (rs : List ARes) : (List AV → β) → β → β :=
  List.rec (motive := fun _ => (List AV → β) → β → β) (fun c _ => c [])
    (fun r _ ih c d => ARes.casesOn (motive := fun _ => β) r (fun i => opF (.tmp i) t fun v => ih (fun l => c (v :: l)) d)
      (fun a agg size => opF (.tmp a) t fun p => ldF agg size p h (fun v => ih (fun l => c (v :: l)) d) d)) rs

def leaveF (C : Cfg) (ih : Rec α) (res : List ARes) (t : Tr AV) (ds : List ADefer) : Tr AO → Nat → List (SB × Bool) → (AV → Tr AO → Nat → List (SB × Bool) → R α) → R α :=
  List.rec (motive := fun _ => Tr AO → Nat → List (SB × Bool) → (AV → Tr AO → Nat → List (SB × Bool) → R α) → R α)
    (fun h nx pc k => resF t h res (fun vs => List.casesOn (motive := fun _ => R α) vs (k (.tup []) h nx pc) (fun v l => List.casesOn (motive := fun _ => R α) l (k v h nx pc) (fun w l => k (.tup (v :: w :: l)) h nx pc))) (.fail 2))
    (fun d _ ihd h nx pc k => ADefer.casesOn (motive := fun _ => R α) d fun f args => iteB (C.nop f) (ihd h nx pc k)
      (onSome (C.fn f) (fun g => AFn.casesOn (motive := fun _ => R α) g fun _ body gres => setAllF args 0 .leaf fun tt => ih body ⟨tt, [], h, nx, pc⟩ fun e s => match e with
        | .exit _ => .fail 3
        | _ => match s with
          | ⟨t', d', h', nx', pc'⟩ => match d' with
            | [] => resF t' h' gres (fun _ => ihd h' nx' pc' k) (.fail 51)
            | _ => .fail 4) (.fail 5))) ds

def callGo (C : Cfg) (ih : Rec α) (f : Nat) (args : List AV) (h : Tr AO) (nx : Nat) (pc : List (SB × Bool)) (k : AV → Tr AO → Nat → List (SB × Bool) → R α) : R α :=
  Option.casesOn (motive := fun _ => R α) (C.ext f)
    (onSome (C.fn f) (fun g => AFn.casesOn (motive := fun _ => R α) g fun n body res => lenF args fun m => iteB (Nat.ble m n)
      (setAllF args 0 .leaf fun tt => ih body ⟨tt, [], h, nx, pc⟩ fun e s => match e with
        | .exit _ => .fail 8
        | _ => match s with
          | ⟨t, d, h, nx, pc⟩ => leaveF C ih res t d h nx pc k) (.fail 7)) (.fail 6))
    (fun g => onSome (g args h) (fun v => fV v fun v => k v h nx pc) (.fail 9))

/-- What the writes that are met seldom come to. -/
def slowE (C : Cfg) (ih : Rec α) (op : AI) (s : St) (k : AV → St → R α) : R α :=
  onSome (updE op s.t s.h) (fun p => Prod.casesOn (motive := fun _ => R α) p fun v q => Prod.casesOn (motive := fun _ => R α) q fun i o => match s with
      | ⟨t, d, h, nx, pc⟩ => fV v fun v => fN i fun i => fObj o fun o => setF (some o) (pathOf i) h fun h => k v ⟨t, d, h, nx, pc⟩)
    (evE C ih op s k)

def evEF (C : Cfg) (ih : Rec α) (op : AI) (s : St) (k : AV → St → R α) : R α :=
  match op with
  | .store size a x => match s with
    | ⟨t, d, h, nx, pc⟩ => opF a t fun p => onPtr p (fun i o => opF x t fun v => cellsF v (fun vs => lenF vs fun n => iteB (Nat.beq n size)
        (stF i o vs h (fun h => k AV.undef ⟨t, d, h, nx, pc⟩) (.fail 10)) (.fail 11)) (.fail 11)) (.fail 12)
  | .append size bytes e a x => match s with
    | ⟨t, d, h, nx, pc⟩ => opF a t fun a => opF x t fun x => appendF size bytes e h nx a x (fun v h nx => k v ⟨t, d, h, nx, pc⟩) (.fail 13)
  | .copy size a b => match s with
    | ⟨t, d, h, nx, pc⟩ => opF a t fun a => opF b t fun b => onSome (srcLen b) (fun n => onSome (srcLen a) (fun m => fN (Nat.min n m) fun q =>
        onSome (srcCells h size q b) (fun cs => match a with
          | .nils => k (.int .i64 0) ⟨t, d, h, nx, pc⟩
          | .emp => k (.int .i64 0) ⟨t, d, h, nx, pc⟩
          | .slice i o _ _ => fL fS cs fun cs => stF i o cs h (fun h => k (.int .i64 (.ofNat q)) ⟨t, d, h, nx, pc⟩) (.fail 14)
          | _ => .fail 14) (.fail 14)) (.fail 14)) (.fail 14)
  | .strToBytes x => match s with
    | ⟨t, d, h, nx, pc⟩ => opF x t fun v => match v with
      | .str n y => fL fS ((strBytes n y).map fun b => AV.int .u8 (.ofNat b)) fun cs => setAllF cs 0 .leaf fun b => setF (some (.cells n 0 0 b)) (pathOf nx) h fun h => fN (Nat.succ nx) fun nx' => k (.slice nx 0 n none) ⟨t, d, h, nx', pc⟩
      | _ => .fail 19
  | .rangeMap x => match s with
    | ⟨t, d, h, nx, pc⟩ => opF x t fun v => match v with
      | .nilm => setF (some (.miter none 0 [] 0)) (pathOf nx) h fun h => fN (Nat.succ nx) fun nx' => k (.ptr nx 0) ⟨t, d, h, nx', pc⟩
      | .map i => getF (pathOf i) h (fun o => match o with
        | .map _ clock => setF (some (.miter (some i) clock [] clock)) (pathOf nx) h fun h => fN (Nat.succ nx) fun nx' => k (.ptr nx 0) ⟨t, d, h, nx', pc⟩
        | _ => .fail 20) (.fail 20)
      | _ => .fail 21
  | .nextMap x => match s with
    | ⟨t, d, h, nx, pc⟩ => opF x t fun v => match v with
      | .ptr i o => Nat.casesOn (motive := fun _ => R α) o
        (getF (pathOf i) h (fun it => match it with
          | .miter none _ _ _ => k (.tup [.bool false]) ⟨t, d, h, nx, pc⟩
          | .miter (some m) since seen last => getF (pathOf m) h (fun mo => match mo with
            | .map es clock => iteB (((seen.isEmpty).not.and (es.isEmpty.not)).and (es.all fun e => Nat.ble last e.2.2)) (.fail 25)
              (fL (fun x c => Option.casesOn (motive := fun _ => R α) x (c none) fun e => fE e fun e => c (some e)) (cands es since seen) fun cd => chF cd fun x => Option.casesOn (motive := fun _ => R α) x
                (k (.tup [.bool false]) ⟨t, d, h, nx, pc⟩)
                (fun e => fE e fun e => appF seen [e.2.2] fun seen => fL fN seen fun seen => setF (some (.miter (some m) since seen clock)) (pathOf i) h fun h => k (.tup [.bool true, e.1, e.2.1]) ⟨t, d, h, nx, pc⟩))
            | _ => .fail 27) (.fail 27)
          | _ => .fail 28) (.fail 28))
        (fun _ => .fail 29)
      | _ => .fail 29
  | .callF f args => match s with
    | ⟨t, d, h, nx, pc⟩ => opsF args t fun l => callGo C ih f l h nx pc fun v h nx pc => k v ⟨t, d, h, nx, pc⟩
  | .callV f args => match s with
    | ⟨t, d, h, nx, pc⟩ => opF f t fun v => match v with
      | .fn g caps => opsF args t fun l => appF l caps fun l => callGo C ih g l h nx pc fun v h nx pc => k v ⟨t, d, h, nx, pc⟩
      | _ => .fail 30
  | .deferF f args => match s with
    | ⟨t, d, h, nx, pc⟩ => opF f t fun v => match v with
      | .fn g caps => opsF args t fun l => appF l caps fun l => k AV.undef ⟨t, ⟨g, l⟩ :: d, h, nx, pc⟩
      | _ => .fail 31
  | op => slowE C ih op s k

def evOF (C : Cfg) (ih : Rec α) (op : AI) (s : St) (k : AV → St → R α) : R α :=
  match s with
  | ⟨t, d, h, nx, pc⟩ => evPRF op t h (fun v => k v ⟨t, d, h, nx, pc⟩)
    (evNewF op t nx (fun o v => setF (some o) (pathOf nx) h fun h => fN (Nat.succ nx) fun nx => k v ⟨t, d, h, nx, pc⟩)
      (match op with
        | .pick c a b => opF c t fun v => withF pc v fun x pc => iteB x (opF a t fun v => k v ⟨t, d, h, nx, pc⟩) (opF b t fun v => k v ⟨t, d, h, nx, pc⟩)
        | .indexSl size x i => evO C ih (.indexSl size x i) ⟨t, d, h, nx, pc⟩ fun v s => fS v fun v => k v s
        | .bin op f x y => evO C ih (.bin op f x y) ⟨t, d, h, nx, pc⟩ fun v s => fS v fun v => k v s
        | op => evEF C ih op ⟨t, d, h, nx, pc⟩ k))

def guardF (g : Option (Nat × Bool)) (s : St) (yes no : St → R α) : R α :=
  match g with
  | none => yes s
  | some (j, want) => match s with
    | ⟨t, d, h, nx, pc⟩ => getF (pathOf j) t (fun v => match v with
        | .bool b => fB b fun b => iteB (b == want) (yes ⟨t, d, h, nx, pc⟩) (no ⟨t, d, h, nx, pc⟩)
        | .sbool c => withB pc (.sbool c) fun b pc => iteB (b == want) (yes ⟨t, d, h, nx, pc⟩) (no ⟨t, d, h, nx, pc⟩)
        | .tup [] => no ⟨t, d, h, nx, pc⟩
        | _ => .fail 36) (.fail 36)

def opsGo (C : Cfg) (ih : Rec α) (ops : List AOper) : St → (St → R α) → R α :=
  List.rec (motive := fun _ => St → (St → R α) → R α) (fun s k => k s)
    (fun o _ iho s k => AOper.casesOn (motive := fun _ => R α) o fun dst op g => guardF g s
      (fun s => evOF C ih op s fun v s => match s with | ⟨t, d, h, nx, pc⟩ => putF dst v t fun t => iho ⟨t, d, h, nx, pc⟩ k)
      (fun s => match s with | ⟨t, d, h, nx, pc⟩ => putF dst AV.undef t fun t => iho ⟨t, d, h, nx, pc⟩ k)) ops

/-! ## Regions that draw -/
def layF (ps : List (Nat × Nat × AO)) (h : Tr AO) : (Tr AO → β) → β :=
  List.rec (motive := fun _ => (Tr AO → β) → β) (fun c => c h) (fun p _ ih c => Prod.casesOn (motive := fun _ => β) p fun _ q => Prod.casesOn (motive := fun _ => β) q fun i o => ih fun h => setF (some o) (pathOf i) h c) ps

def againF (re : List Nat) (h : Tr AO) (l : List Seen) : β → β → β :=
  List.rec (motive := fun _ => β → β → β) (fun y _ => y)
    (fun x _ ih y n => Prod.casesOn (motive := fun _ => β) x fun m q => Prod.casesOn (motive := fun _ => β) q fun op q => Prod.casesOn (motive := fun _ => β) q fun t v =>
      iteB (memN m re) (evPRF op t h (fun w => iteB (AV.same v w) (ih y n) n) n) (ih y n)) l

def splitF (mg : List Nat) (ps : List (Nat × Nat × AO)) : (List (Nat × Nat × AO) → List (Nat × Nat × AO) → β) → β :=
  List.rec (motive := fun _ => (List (Nat × Nat × AO) → List (Nat × Nat × AO) → β) → β) (fun c => c [] [])
    (fun p _ ih c => ih fun a b => iteB (memN p.1 mg) (c (p :: a) b) (c a (p :: b))) ps

/-- A trie, forced: its spine. -/
def fT (t : Tr γ) : (Tr γ → β) → β :=
  Tr.rec (motive := fun _ => (Tr γ → β) → β) (fun c => c .leaf) (fun v _ _ il ir c => il fun l => ir fun r => c (.node v l r)) t
def fHW (x : Nat × HW) (c : Nat × HW → β) : β := Prod.casesOn (motive := fun _ => β) x fun m w => match w with
  | .cells o vs => fL fS vs fun vs => c (m, .cells o vs)
  | .ins kk k v => fA k fun k => fA v fun v => c (m, .ins kk k v)
def fH (e : Hid) (c : Hid → β) : β := Prod.casesOn (motive := fun _ => β) e fun mk q => Prod.casesOn (motive := fun _ => β) q fun i q => Prod.casesOn (motive := fun _ => β) q fun ob ws => fL fHW ws fun ws => c (mk, i, ob, ws)
def fObT (o : AO) (c : AO → β) : β := match o with
  | .cells n g e t => fT t fun t => c (.cells n g e t)
  | o => fObj o c
def hidF (hid : List Hid) (h : Tr AO) : (Tr AO → β) → β :=
  List.rec (motive := fun _ => (Tr AO → β) → β) (fun c => c h)
    (fun e _ ih c => Prod.casesOn (motive := fun _ => β) e fun _ q => Prod.casesOn (motive := fun _ => β) q fun i q => Prod.casesOn (motive := fun _ => β) q fun ob ws => ih fun h => fObT (applyWs ob ws) fun o => setF (some o) (pathOf i) h c) hid

/-- The state, the pending objects, what was seen, what is hidden; 'hl': the heap with what is pending laid in. -/
def drawGo (C : Cfg) (ih : Rec α) (ds : List DOp) : Tr AV → List ADefer → Tr AO → Tr AO → Nat → List (SB × Bool) → List (Nat × Nat × AO) → List Seen → List Hid → (St → R α) → R α :=
  List.rec (motive := fun _ => Tr AV → List ADefer → Tr AO → Tr AO → Nat → List (SB × Bool) → List (Nat × Nat × AO) → List Seen → List Hid → (St → R α) → R α)
    (fun t d _ hl nx pc _ _ hid k => hidF hid hl fun hl => k ⟨t, d, hl, nx, pc⟩)
    (fun o _ iho t d h hl nx pc pend seen hid k => DOp.casesOn (motive := fun _ => R α) o fun ao mark cls re mg => AOper.casesOn (motive := fun _ => R α) ao fun dst op g => guardF g ⟨t, d, h, nx, pc⟩
      (fun s => match s with
        | ⟨t, d, h, nx, pc⟩ => Nat.casesOn (motive := fun _ => R α) cls
          (evPRF op t hl (fun v => putF dst v t fun t' => iho t' d h hl nx pc pend ((mark, op, t, v) :: seen) hid k)
            (match op with
              | .pick c a b => opF c t fun v => withF pc v fun x pc => iteB x (opF a t fun v => putF dst v t fun t => iho t d h hl nx pc pend seen hid k) (opF b t fun v => putF dst v t fun t => iho t d h hl nx pc pend seen hid k)
              | _ => .fail 40))
          fun cls => Nat.casesOn (motive := fun _ => R α) cls
            (evNewF op t nx (fun o v => setF (some o) (pathOf nx) hl fun hl => fN (Nat.succ nx) fun nx' => putF dst v t fun t => iho t d h hl nx' pc ((mark, nx, o) :: pend) seen hid k) (.fail 41))
            fun cls => Nat.casesOn (motive := fun _ => R α) cls
              (splitF mg pend fun now later => layF now h fun hn => evEF C ih op ⟨t, d, hn, nx, pc⟩ fun v s => match s with
                | ⟨t, d, h, nx, pc⟩ => layF later h fun hl => againF re hl seen (putF dst v t fun t => iho t d h hl nx pc later seen hid k) (.fail 42))
              fun _ => onSome (hideW mg mark op t h pend hid) (fun p => Prod.casesOn (motive := fun _ => R α) p fun h q => Prod.casesOn (motive := fun _ => R α) q fun pend hid =>
                  fT h fun h => fL (fun p c => c p) pend fun pend => fL fH hid fun hid => layF pend h fun hl => againF re hl seen (putF dst AV.undef t fun t => iho t d h hl nx pc pend seen hid k) (.fail 43)) (.fail 44))
      (fun s => match s with
        | ⟨t, d, h, nx, pc⟩ => putF dst AV.undef t fun t => iho t d h hl nx pc pend seen hid k)) ds

def stepF (C : Cfg) (ih : Rec α) (c : ACode) : St → (AExit → St → R α) → R α :=
  ACode.casesOn (motive := fun _ => St → (AExit → St → R α) → R α) c
    /- skip -/ (fun s k => k .normal s)
    /- region -/ (fun ops s k => opsGo C ih ops s (k .normal))
    /- draw -/ (fun ops s k => match s with | ⟨t, d, h, nx, pc⟩ => drawGo C ih ops t d h h nx pc [] [] [] (k .normal))
    /- seq -/ (fun a b s k => ih a s fun e s => AExit.casesOn (motive := fun _ => R α) e (ih b s k) (fun j => k (.exit j) s) (k .ret s))
    /- cond -/ (fun c a b s k => match s with | ⟨t, d, h, nx, pc⟩ => opF c t fun v => withF pc v fun x pc => iteB x (ih a ⟨t, d, h, nx, pc⟩ k) (ih b ⟨t, d, h, nx, pc⟩ k))
    /- block -/ (fun id c s k => ih c s fun e s => AExit.casesOn (motive := fun _ => R α) e (k .normal s) (fun j => iteB (Nat.beq j id) (k .normal s) (k (.exit j) s)) (k .ret s))
    /- loop -/ (fun c s k => ih c s fun e s => AExit.casesOn (motive := fun _ => R α) e (ih (.loop c) s k) (fun j => k (.exit j) s) (k .ret s))
    /- exit -/ (fun id s k => k (.exit id) s)
    /- ret -/ (fun s k => k .ret s)
    /- bad -/ (fun n _ _ => .fail (Nat.add 2000 n))

def evF (C : Cfg) (n : Nat) : Rec α := Nat.rec (motive := fun _ => Rec α) (fun _ _ _ => .fail 0) (fun _ ih => stepF C ih) n
end
end Ct
