/-
A run of the program's code over values that are told by terms: the run itself, as a function. Its conditions: none; what it says is proved in the texts behind it.
-/
import Derived.Test.YtpkclnkibhgpkaaGreatXA
namespace Go.Proofs.YtpkclnkibhgpkaaGreat.Sx
open Go
noncomputable section

/-- a map from numbers -/
inductive Tr (α : Type) where
  | nil
  | node (v : Option α) (l r : Tr α)
def Tr.get {α : Type} (t : Tr α) : Nat → Option α :=
  Tr.rec (motive := fun _ => Nat → Option α) (fun _ => none) (fun v _ _ gl gr k => Nat.rec (motive := fun _ => Option α) v (fun m _ => cond (Nat.beq (Nat.mod m 2) 0) (gl (Nat.div m 2)) (gr (Nat.div m 2))) k) t
def Tr.root {α : Type} : Tr α → Option α
  | .nil => none
  | .node v _ _ => v
def Tr.lft {α : Type} : Tr α → Tr α
  | .nil => .nil
  | .node _ l _ => l
def Tr.rgt {α : Type} : Tr α → Tr α
  | .nil => .nil
  | .node _ _ r => r
def Tr.setF {α : Type} (f : Nat) : Tr α → Nat → Option α → Tr α :=
  Nat.rec (motive := fun _ => Tr α → Nat → Option α → Tr α) (fun t _ _ => t)
    (fun _ ih t k a => Nat.rec (motive := fun _ => Tr α) (.node a t.lft t.rgt)
      (fun m _ => cond (Nat.beq (Nat.mod m 2) 0) (.node t.root (ih t.lft (Nat.div m 2) a) t.rgt) (.node t.root t.lft (ih t.rgt (Nat.div m 2) a))) k) f
def Tr.set {α : Type} (t : Tr α) (k : Nat) (a : Option α) : Tr α := Tr.setF (Nat.succ k) t k a

/-- what one cell holds, but for a function -/
inductive LC where
  | int (k : IntKind) (x : SI)
  | bool (b : SB)
  | ptr (id off : Nat)
  | sptr (id off stride n : Nat) (i : SI)
  | nilp
  | sl (id off len : Nat) (cap : Option Nat)
  | own (id len : Nat)
  | nils
  | val (v : Value)
inductive SC where
  | lf (x : LC)
  | fn (f : Nat) (first : List (Bool × List LC)) (caps : List LC)
inductive SV where
  | c (x : SC)
  | agg (l : List SC)
inductive ST where
  | v (x : SV)
  | tup (l : List SV)

structure Blk where
  off : Nat
  cells : List SC
  wr : Bool
  ap : Nat
structure St where
  tm : Tr ST
  hp : List (Nat × Blk)
  nx : Nat
  wr : Nat

/-- a type, as far as the run asks -/
inductive TD where
  | int (k : IntKind) | bool | str | ptr (e : Nat) | slice (e : Nat) | arr (n e : Nat) | st (l : List (Nat × Nat)) | func | map (k e : Nat)
structure TyD where
  td : TD
  size : Nat
  bytes : Nat
  zero : List SC
structure Env where
  ty : Tr TyD
  fn : Tr Func
  sm : Nat → List ST → List (Nat × Blk) → Nat → Option (ST × List (Nat × Blk) × Nat)

def isAggD : TD → Bool
  | .arr _ _ => true
  | .st _ => true
  | _ => false
def lfc (x : LC) : ST := .v (.c (.lf x))
def kc (k : IntKind) (x : SI) : ST := lfc (.int k x)
def bc (b : SB) : ST := lfc (.bool b)

def isEmptyA {α : Type} (a : Array α) : Bool := match a with | ⟨[]⟩ => true | _ => false
def ofCell : Value → Option SC
  | .int k n => some (.lf (.int k (.lit n)))
  | .bool b => some (.lf (.bool (.lit b)))
  | .pointer none => some (.lf .nilp)
  | .slice none 0 0 => some (.lf .nils)
  | .string s => some (.lf (.val (.string s)))
  | .nilFunc => some (.lf (.val .nilFunc))
  | .nilIface => some (.lf (.val .nilIface))
  | .map none => some (.lf (.val (.map none)))
  | _ => none
def mapO {α β : Type} (f : α → Option β) : List α → Option (List β)
  | [] => some []
  | a :: r => match f a with
    | none => none
    | some b => match mapO f r with
      | none => none
      | some l => some (b :: l)
def ofVal : Value → Option ST
  | .agg cs => match mapO ofCell cs.toList with
    | some l => some (.v (.agg l))
    | none => none
  | v => match ofCell v with
    | some c => some (.v (.c c))
    | none => none
def evO (tm : Tr ST) : Operand → Option ST
  | .tmp t => tm.get t
  | .const v => ofVal v
  | .func f => some (.v (.c (.fn f [] [])))
  | .global _ => none

def takeL {α : Type} : Nat → List α → List α
  | 0, _ => []
  | _, [] => []
  | n + 1, a :: r => a :: takeL n r
def dropL {α : Type} : Nat → List α → List α
  | 0, l => l
  | _, [] => []
  | n + 1, _ :: r => dropL n r
def nthL {α : Type} : List α → Nat → Option α
  | [], _ => none
  | a :: _, 0 => some a
  | _ :: r, n + 1 => nthL r n
def lenL {α : Type} : List α → Nat
  | [] => 0
  | _ :: r => lenL r + 1
/-- l with some cells laid from a place on; none where they do not fit -/
def layL {α : Type} : Nat → List α → List α → Option (List α)
  | _, l, [] => some l
  | 0, _ :: l, b :: r => match layL 0 l r with
    | some x => some (b :: x)
    | none => none
  | n + 1, a :: l, r => match layL n l r with
    | some x => some (a :: x)
    | none => none
  | _, [], _ :: _ => none
/-- some cells from a place on; none where they are not there -/
def cutL {α : Type} (off n : Nat) (l : List α) : Option (List α) :=
  let x := takeL n (dropL off l)
  bif Nat.beq (lenL x) n then some x else none

/-- the part of a type, of some cells -/
def partS (d : TyD) (cs : List SC) (off : Nat) : Option SV :=
  bif isAggD d.td then (match cutL off d.size cs with | some l => some (.agg l) | none => none)
  else match nthL cs off with
    | some c => some (.c c)
    | none => none
def svCells : SV → List SC
  | .c x => [x]
  | .agg l => l

/-- a slice of an own row, as a slice -/
def asL : LC → LC
  | .own id n => .sl id 0 n none
  | x => x
def asS : ST → ST
  | .v (.c (.lf x)) => .v (.c (.lf (asL x)))
  | x => x
/-- int operations -/
def intBin (op : BinOp) (k : IntKind) (a b : SI) : Option LC :=
  match op with
  | .add => some (.int k (addS k a b))
  | .sub => some (.int k (subS k a b))
  | .mul => some (.int k (mulS k a b))
  | .quo => match quoS k a b with | some r => some (.int k r) | none => none
  | .rem => match remS a b with | some r => some (.int k r) | none => none
  | .and => some (.int k (andS k a b))
  | .or => some (.int k (orS .or (.inl rfl) k a b))
  | .xor => some (.int k (orS .xor (.inr rfl) k a b))
  | .andNot => some (.int k (andNotS k a b))
  | .eql => some (.bool (eqB a b))
  | .neq => some (.bool (notB (eqB a b)))
  | .leq => some (.bool (leB a b))
  | .geq => some (.bool (leB b a))
  | .lss => some (.bool (notB (leB b a)))
  | .gtr => some (.bool (notB (leB a b)))
  | _ => none
def kindEq : IntKind → IntKind → Bool
  | .i8, .i8 | .i16, .i16 | .i32, .i32 | .i64, .i64 | .u8, .u8 | .u16, .u16 | .u32, .u32 | .u64, .u64 => true
  | _, _ => false
def eqBB (a b : SB) : SB :=
  match a, b with
  | .lit x, .lit y => .lit (x == y)
  | a, b => .sym (a.val == b.val)
def boolBin (e : Env) (op : BinOp) (t : Nat) (a b : SB) : Option LC :=
  match e.ty.get t, op with
  | some ⟨.bool, _, _, _⟩, .eql => some (.bool (eqBB a b))
  | some ⟨.bool, _, _, _⟩, .neq => some (.bool (notB (eqBB a b)))
  | _, _ => none
/-- compared with nil -/
def nilBin (e : Env) (op : BinOp) (t : Nat) (a b : LC) : Option LC :=
  match e.ty.get t, op, a, b with
  | some ⟨.slice _, _, _, _⟩, .eql, .nils, .nils => some (.bool (.lit true))
  | some ⟨.slice _, _, _, _⟩, .eql, .sl _ _ _ _, .nils => some (.bool (.lit false))
  | some ⟨.slice _, _, _, _⟩, .neq, .nils, .nils => some (.bool (.lit false))
  | some ⟨.slice _, _, _, _⟩, .neq, .sl _ _ _ _, .nils => some (.bool (.lit true))
  | _, _, _, _ => none
/-- strings: their bytes, and whether they are the same -/
def bytesL : List UInt8 → List Nat
  | [] => []
  | b :: r => b.toNat :: bytesL r
def natsEq : List Nat → List Nat → Bool
  | [], [] => true
  | a :: r, b :: s => bif Nat.beq a b then natsEq r s else false
  | _, _ => false
def strBin (op : BinOp) (a b : ByteArray) : Option LC :=
  match op with
  | .eql => some (.bool (.lit (natsEq (bytesL a.data.toList) (bytesL b.data.toList))))
  | .neq => some (.bool (.lit (!natsEq (bytesL a.data.toList) (bytesL b.data.toList))))
  | _ => none
def strCells : List Nat → List SC
  | [] => []
  | n :: r => .lf (.int .u8 (.lit n)) :: strCells r
def binS (e : Env) (op : BinOp) (t : Nat) (x y : ST) : Option ST :=
  match x, y with
  | .v (.c (.lf (.int k a))), .v (.c (.lf (.int k' b))) =>
    match op with
    | .shl => match shlS k a b with | some r => some (kc k r) | none => none
    | .shr => match shrS k a b with | some r => some (kc k r) | none => none
    | op => bif kindEq k k' then (match intBin op k a b with | some r => some (lfc r) | none => none) else none
  | .v (.c (.lf (.bool a))), .v (.c (.lf (.bool b))) => match boolBin e op t a b with | some r => some (lfc r) | none => none
  | .v (.c (.lf (.val (.string a)))), .v (.c (.lf (.val (.string b)))) => match strBin op a b with | some r => some (lfc r) | none => none
  | .v (.c (.lf a)), .v (.c (.lf b)) => match nilBin e op t (asL a) (asL b) with | some r => some (lfc r) | none => none
  | _, _ => none
def unS (op : UnOp) (x : ST) : Option ST :=
  match op, x with
  | .not, .v (.c (.lf (.bool b))) => some (bc (notB b))
  | .neg, .v (.c (.lf (.int k a))) => some (kc k (subS k (.lit 0) a))
  | _, _ => none
def convS' (e : Env) (dst : Nat) (x : ST) : Option ST :=
  match e.ty.get dst, x with
  | some ⟨.int k, _, _, _⟩, .v (.c (.lf (.int _ a))) => some (kc k (convS k a))
  | _, _ => none

def optEq : Option Nat → Option Nat → Bool
  | none, none => true
  | some x, some y => Nat.beq x y
  | _, _ => false
/-- one of two, by a truth -/
def mgL (p : Bool) : LC → LC → Option LC
  | .int k a, .int k' b => bif kindEq k k' then some (.int k (iteS p a b)) else none
  | .bool a, .bool b => some (.bool (iteB p a b))
  | .nilp, .nilp => some .nilp
  | .nils, .nils => some .nils
  | .ptr i o, .ptr j q => bif Nat.beq i j && Nat.beq o q then some (.ptr i o) else none
  | .sl i o n c, .sl j q m d => bif (Nat.beq i j && Nat.beq o q) && (Nat.beq n m && optEq c d) then some (.sl i o n c) else none
  | .own i n, .own j m => bif Nat.beq i j && Nat.beq n m then some (.own i n) else none
  | _, _ => none
def mgC (p : Bool) : SC → SC → Option SC
  | .lf a, .lf b => match mgL p a b with | some x => some (.lf x) | none => none
  | _, _ => none
def mgCs (p : Bool) : List SC → List SC → Option (List SC)
  | [], [] => some []
  | a :: r, b :: s => match mgC p a b with
    | none => none
    | some x => match mgCs p r s with
      | none => none
      | some l => some (x :: l)
  | _, _ => none
def mgV (p : Bool) : SV → SV → Option SV
  | .c a, .c b => match mgC p a b with | some x => some (.c x) | none => none
  | .agg a, .agg b => match mgCs p a b with | some x => some (.agg x) | none => none
  | _, _ => none
def mgVs (p : Bool) : List SV → List SV → Option (List SV)
  | [], [] => some []
  | a :: r, b :: s => match mgV p a b with
    | none => none
    | some x => match mgVs p r s with
      | none => none
      | some l => some (x :: l)
  | _, _ => none
def mgT (p : Bool) : ST → ST → Option ST
  | .v a, .v b => match mgV p a b with | some x => some (.v x) | none => none
  | .tup a, .tup b => match mgVs p a b with | some x => some (.tup x) | none => none
  | _, _ => none
def pickS (c a b : ST) : Option ST :=
  match c with
  | .v (.c (.lf (.bool (.lit true)))) => some a
  | .v (.c (.lf (.bool (.lit false)))) => some b
  | .v (.c (.lf (.bool (.sym p)))) => mgT p a b
  | _ => none

/-- a place in a list of cells that a number chooses: every m-th one, from the first on -/
def colSI : Nat → List SC → Nat → Nat → IntKind → Option (List SI)
  | 0, _, _, _, _ => some []
  | n + 1, cs, off, m, k => match nthL cs off with
    | some (.lf (.int k' a)) => bif kindEq k k' then (match colSI n cs (off + m) m k with | some l => some (a :: l) | none => none) else none
    | _ => none
def selCell (cs : List SC) (off m n : Nat) (i : SI) : Option SC :=
  match nthL cs off with
  | some (.lf (.int k a)) => match colSI (n - 1) cs (off + m) m k with
    | some l => some (.lf (.int k (selS a l i)))
    | none => none
  | _ => none
def selCells : Nat → List SC → Nat → Nat → Nat → SI → Option (List SC)
  | 0, _, _, _, _, _ => some []
  | z + 1, cs, off, m, n, i => match selCell cs off m n i with
    | none => none
    | some c => match selCells z cs (off + 1) m n i with
      | none => none
      | some l => some (c :: l)
/-- what some cells are, of a type -/
def oneSV (d : TyD) (l : List SC) : Option SV := bif isAggD d.td then some (.agg l) else (match l with | [c] => some (.c c) | _ => none)
/-- an index within so many -/
def inB (i : SI) (n : Nat) : Bool := ile 0 i.lo && ile (i.hi + 1) n
def indexS (e : Env) (t : Nat) (x i : ST) : Option ST :=
  match e.ty.get t, x, i with
  | some ⟨.arr n el, _, _, _⟩, .v (.agg cs), .v (.c (.lf (.int _ ix))) =>
    bif inB ix n then
      match e.ty.get el with
      | some d =>
        match ix with
        | .lit j => match partS d cs (j.toNat * d.size) with | some r => some (.v r) | none => none
        | ix => bif Nat.beq (lenL cs) (n * d.size) then
            (match selCells d.size cs 0 d.size n ix with
             | some l => (match oneSV d l with | some q => some (.v q) | none => none)
             | none => none) else none
      | none => none
    else none
  | _, _, _ => none
def fieldOf (e : Env) (t f : Nat) : Option (Nat × TyD) :=
  match e.ty.get t with
  | some ⟨.st l, _, _, _⟩ => match nthL l f with
    | some (off, ft) => match e.ty.get ft with | some d => some (off, d) | none => none
    | none => none
  | _ => none
def fieldS (e : Env) (t : Nat) (x : ST) (f : Nat) : Option ST :=
  match fieldOf e t f, x with
  | some (off, d), .v (.agg cs) => match partS d cs off with | some r => some (.v r) | none => none
  | _, _ => none
def fieldAddrS (e : Env) (t : Nat) (x : ST) (f : Nat) : Option ST :=
  match fieldOf e t f, x with
  | some (off, d), .v (.c (.lf (.ptr id o))) => bif Nat.beq d.size 0 then none else some (lfc (.ptr id (o + off)))
  | some (off, d), .v (.c (.lf (.sptr id o m n i))) => bif Nat.beq d.size 0 then none else some (lfc (.sptr id (o + off) m n i))
  | _, _ => none
def indexAddrS (e : Env) (t : Nat) (x i : ST) : Option ST :=
  match i with
  | .v (.c (.lf (.int _ ix))) =>
    let go (id off n el : Nat) : Option ST :=
      bif inB ix n then
        match e.ty.get el with
        | some d => bif Nat.beq d.size 0 then none else
          match ix with
          | .lit j => some (lfc (.ptr id (off + j.toNat * d.size)))
          | ix => some (lfc (.sptr id off d.size n ix))
        | none => none
      else none
    match e.ty.get t, x with
    | some ⟨.arr n el, _, _, _⟩, .v (.c (.lf (.ptr id off))) => go id off n el
    | some ⟨.slice el, _, _, _⟩, .v (.c (.lf (.sl id off len _))) => go id off len el
    | _, _ => none
  | _ => none
def buildOne (e : Env) (base : List SC) (place : Nat → Option (Nat × Nat)) : List (Nat × ST) → Option (List SC)
  | [] => some base
  | (i, .v x) :: r => match place i with
    | some (off, size) => bif Nat.beq (lenL (svCells x)) size && Nat.blt 0 size then (match layL off base (svCells x) with | some b => buildOne e b place r | none => none) else none
    | none => none
  | _ => none
def evParts (tm : Tr ST) : List (Nat × Operand) → Option (List (Nat × ST))
  | [] => some []
  | (i, x) :: r => match evO tm x with
    | none => none
    | some v => match evParts tm r with
      | none => none
      | some l => some ((i, v) :: l)
def placeF (e : Env) (p : Nat × Nat) : Option (Nat × Nat) := match e.ty.get p.2 with | some d => some (p.1, d.size) | none => none
def buildS (e : Env) (t : Nat) (ps : List (Nat × ST)) : Option ST :=
  match e.ty.get t with
  | some ⟨.st l, _, _, z⟩ => match mapO (placeF e) l with
    | some pl => match buildOne e z (nthL pl) ps with | some l => some (.v (.agg l)) | none => none
    | none => none
  | some ⟨.arr _ el, _, _, z⟩ => match e.ty.get el with
    | some d => match buildOne e z (fun i => some (i * d.size, d.size)) ps with | some l => some (.v (.agg l)) | none => none
    | none => none
  | _ => none
def extractS (x : ST) (i : Nat) : Option ST :=
  match x with
  | .tup l => match nthL l i with | some v => some (.v v) | none => none
  | _ => none
def leaves : List ST → Option (List LC)
  | [] => some []
  | .v (.c (.lf x)) :: r => match leaves r with | some l => some (x :: l) | none => none
  | _ => none
def cleaf : List SC → Option (List LC)
  | [] => some []
  | .lf x :: r => match cleaf r with | some l => some (x :: l) | none => none
  | _ => none
def firsts : List ST → Option (List (Bool × List LC))
  | [] => some []
  | .v (.c (.lf x)) :: r => match firsts r with | some l => some ((false, [x]) :: l) | none => none
  | .v (.agg cs) :: r => match cleaf cs, firsts r with | some l, some m => some ((true, l) :: m) | _, _ => none
  | _ => none
def evL (tm : Tr ST) : List Operand → Option (List ST)
  | [] => some []
  | x :: r => match evO tm x with
    | none => none
    | some v => match evL tm r with
      | none => none
      | some l => some (v :: l)
def makeFuncS (f : Fn) (fs cs : List ST) : Option ST :=
  match f, firsts fs, leaves cs with
  | .func n, some a, some b => some (.v (.c (.fn n a b)))
  | _, _, _ => none
def nat? : Option ST → Option Nat
  | some (.v (.c (.lf (.int _ (.lit n))))) => bif ile 0 n then some n.toNat else none
  | _ => none
/-- bounds: low, high, max -/
def bM (len : Nat) (cap : Option Nat) : Option (Option ST) → Option (Option Nat)
  | none => some cap
  | some x => match nat? x, cap with
    | some n, some c => bif Nat.ble n c then some (some n) else none
    | some n, none => bif Nat.ble n len then some (some n) else none
    | none, _ => none
def bH (len : Nat) (noMax : Bool) (m : Option Nat) : Option (Option ST) → Option Nat
  | none => bif noMax then some len else none
  | some x => match nat? x, m with
    | some n, some c => bif Nat.ble n c then some n else none
    | some n, none => bif Nat.ble n len then some n else none
    | none, _ => none
def bL (h : Nat) : Option (Option ST) → Option Nat
  | none => some 0
  | some x => match nat? x with
    | some l => bif Nat.ble l h then some l else none
    | none => none
def isNone {α : Type} : Option α → Bool
  | none => true
  | some _ => false
def bnds (len : Nat) (cap : Option Nat) (lo hi mx : Option (Option ST)) : Option (Nat × Nat × Option Nat) :=
  match bM len cap mx with
  | none => none
  | some m => match bH len (isNone mx) m hi with
    | none => none
    | some h => match bL h lo with
      | none => none
      | some l => some (l, h, m)
def sliceS (e : Env) (t : Nat) (x : ST) (lo hi mx : Option (Option ST)) : Option ST :=
  let go (id off len : Nat) (cap : Option Nat) (el : Nat) : Option ST :=
    match bnds len cap lo hi mx, e.ty.get el with
    | some (l, h, some m), some d => some (lfc (.sl id (bif Nat.beq m l then off else off + l * d.size) (h - l) (some (m - l))))
    | some (l, h, none), some d => bif Nat.ble (l + 1) h || Nat.beq l 0 then some (lfc (.sl id (off + l * d.size) (h - l) none)) else none
    | _, _ => none
  match e.ty.get t, x with
  | some ⟨.slice el, _, _, _⟩, .v (.c (.lf (.sl id off len cap))) => go id off len cap el
  | some ⟨.arr n el, _, _, _⟩, .v (.c (.lf (.ptr id off))) => go id off n (some n) el
  | _, _ => none
def lenS (e : Env) (t : Nat) (x : ST) : Option ST :=
  match e.ty.get t, x with
  | some ⟨.arr n _, _, _, _⟩, _ => some (kc .i64 (.lit n))
  | some ⟨.str, _, _, _⟩, .v (.c (.lf (.val (.string s)))) => some (kc .i64 (.lit (lenL s.data.toList)))
  | some ⟨.slice _, _, _, _⟩, .v (.c (.lf (.sl _ _ n _))) => some (kc .i64 (.lit n))
  | some ⟨.slice _, _, _, _⟩, .v (.c (.lf .nils)) => some (kc .i64 (.lit 0))
  | _, _ => none
def foldMM (mx : Bool) : SI → List ST → IntKind → Option SI
  | a, [], _ => some a
  | a, y :: r, k' => match y with
    | .v (.c (.lf (.int k b))) => bif kindEq k k' then foldMM mx (bif mx then maxS a b else minS a b) r k' else none
    | _ => none
def mmS (mx : Bool) (l : List ST) : Option ST :=
  match l with
  | .v (.c (.lf (.int k a))) :: r => match foldMM mx a r k with | some x => some (kc k x) | none => none
  | _ => none
def nilCheckS (x : ST) : Option ST :=
  match x with
  | .v (.c (.lf (.ptr _ _))) => some x
  | .v (.c (.lf (.sptr _ _ _ _ _))) => some x
  | .v (.c (.fn _ _ _)) => some x
  | _ => none
def builtinPure (e : Env) (b : Builtin) (ts : List Nat) (args : List ST) : Option ST :=
  match b, ts, args with
  | .len, t :: _, [x] => lenS e t (asS x)
  | .min, _, l => mmS false l
  | .max, _, l => mmS true l
  | _, _, _ => none
/-- an operation that looks at no memory -/
def pureS (e : Env) (tm : Tr ST) (op : Op) : Option ST :=
  match op with
  | .move x | .assign x => evO tm x
  | .pick c a b => match evO tm c, evO tm a, evO tm b with
    | some (.v (.c (.lf (.bool (.lit true))))), some a, _ => some a
    | some (.v (.c (.lf (.bool (.lit false))))), _, some b => some b
    | some c, some a, some b => pickS c a b
    | _, _, _ => none
  | .binOp op t x y _ => match evO tm x, evO tm y with | some a, some b => binS e op t a b | _, _ => none
  | .unOp op _ x => match evO tm x with | some a => unS op a | _ => none
  | .convert s d x => match e.ty.get s, evO tm x with | some _, some a => convS' e d a | _, _ => none
  | .nilCheck x => match evO tm x with | some a => nilCheckS a | _ => none
  | .fieldAddr t x f => match evO tm x with | some a => fieldAddrS e t a f | _ => none
  | .field t x f => match evO tm x with | some a => fieldS e t a f | _ => none
  | .indexAddr t x i => match evO tm x, evO tm i with | some a, some b => indexAddrS e t (asS a) b | _, _ => none
  | .index t x i => match evO tm x, evO tm i with | some a, some b => indexS e t a b | _, _ => none
  | .extract x i => match evO tm x with | some a => extractS a i | _ => none
  | .build t ps => match evParts tm ps.toList with | some l => buildS e t l | _ => none
  | .makeFunc f a b => match evL tm a.toList, evL tm b.toList with | some x, some y => makeFuncS f x y | _, _ => none
  | .slice t x lo hi mx => match evO tm x with
    | some a => sliceS e t (asS a) (lo.map (evO tm)) (hi.map (evO tm)) (mx.map (evO tm))
    | _ => none
  | .call { callee := .builtin b, args, argTypes } => match evL tm args.toList with | some l => builtinPure e b argTypes.toList l | _ => none
  | _ => none

/-- memory -/
def getB : List (Nat × Blk) → Nat → Option Blk
  | [], _ => none
  | (i, b) :: r, id => bif Nat.beq i id then some b else getB r id
def setB : List (Nat × Blk) → Nat → Blk → List (Nat × Blk)
  | [], _, _ => []
  | (i, b) :: r, id, x => bif Nat.beq i id then (i, x) :: r else (i, b) :: setB r id x
def loadS (e : Env) (hp : List (Nat × Blk)) (t : Nat) (x : ST) : Option SV :=
  match e.ty.get t, x with
  | some d, .v (.c (.lf (.ptr id off))) => match getB hp id with
    | some b => bif Nat.ble b.off off then partS d b.cells (off - b.off) else none
    | none => none
  | some d, .v (.c (.lf (.sptr id off m n i))) => match getB hp id with
    | some b => bif (Nat.ble b.off off && inB i n) && Nat.ble (off - b.off + (n - 1) * m + d.size) (lenL b.cells) then
        (match selCells d.size b.cells (off - b.off) m n i with
         | some l => oneSV d l
         | none => none) else none
    | none => none
  | _, _ => none
def bit1 (i : Nat) : Nat := Nat.shiftLeft 1 i
def storeS (e : Env) (s : St) (t : Nat) (x : ST) (v : ST) : Option St :=
  match e.ty.get t, x, v with
  | some d, .v (.c (.lf (.ptr id off))), .v u => match getB s.hp id with
    | some b => bif (b.wr && Nat.ble b.off off) && Nat.beq (lenL (svCells u)) d.size then
        (match layL (off - b.off) b.cells (svCells u) with
         | some l => some ⟨s.tm, setB s.hp id ⟨b.off, l, b.wr, b.ap⟩, s.nx, Nat.lor s.wr (bit1 id)⟩
         | none => none) else none
    | none => none
  | _, _, _ => none
def allocS (s : St) (cells : List SC) : St := match s with | ⟨tm, hp, nx, wr⟩ => ⟨tm, (nx, ⟨0, cells, true, 0⟩) :: hp, Nat.succ nx, wr⟩

def repL {α : Type} (l : List α) : Nat → List α
  | 0 => []
  | n + 1 => l ++ repL l n
/-- some cells behind a slice's own, of a type's size -/
def rowS (e : Env) (hp : List (Nat × Blk)) (el n : Nat) (x : ST) : Option (List SC) :=
  match e.ty.get el, x with
  | some _, .v (.c (.lf .nils)) => bif Nat.beq n 0 then some [] else none
  | some d, .v (.c (.lf (.sl id off _ _))) => match getB hp id with
    | some b => bif Nat.ble b.off off then cutL (off - b.off) (n * d.size) b.cells else none
    | none => none
  | _, _ => none

inductive Ex where
  | normal
  | exit (id : Nat)
  | ret
inductive Tree where
  | leaf (e : Ex) (s : St)
  | ite (p : Bool) (a b : Tree)

def slLen : ST → Option Nat
  | .v (.c (.lf (.sl _ _ n _))) => some n
  | .v (.c (.lf .nils)) => some 0
  | _ => none
/-- a row behind a new slice -/
def freshS (s : St) (row : List SC) (n es : Nat) : ST × St := (lfc (.own s.nx n), ⟨s.tm, (s.nx, ⟨0, row, true, es⟩) :: s.hp, Nat.succ (Nat.succ s.nx), s.wr⟩)
def remB : List (Nat × Blk) → Nat → List (Nat × Blk)
  | [], _ => []
  | (i, b) :: r, id => bif Nat.beq i id then remB r id else (i, b) :: remB r id
/-- append: in its place where it surely fits, a row behind a new slice where it surely does not; where it may fit, the row goes on under a new number -/
def appendD (s : St) (d : TyD) (a : ST) (n m : Nat) (x y : List SC) : Option (ST × St) :=
  match a with
  | .v (.c (.lf .nils)) => some (freshS s y m d.size)
  | .v (.c (.lf (.own id _))) =>
    match getB s.hp id with
    | some bk => bif bk.wr && Nat.beq bk.ap d.size then some (lfc (.own s.nx (n + m)), ⟨s.tm, (s.nx, ⟨0, x ++ y, true, d.size⟩) :: remB s.hp id, Nat.succ (Nat.succ s.nx), Nat.lor s.wr (bit1 id)⟩) else none
    | none => none
  | .v (.c (.lf (.sl id off _ (some c)))) =>
    bif Nat.ble (n + m) c then
      (match getB s.hp id with
       | some bk => bif bk.wr && Nat.ble bk.off off then
           (match layL (off - bk.off + n * d.size) bk.cells y with
            | some l => some (lfc (.sl id off (n + m) (some c)), ⟨s.tm, setB s.hp id ⟨bk.off, l, bk.wr, bk.ap⟩, s.nx, Nat.lor s.wr (bit1 id)⟩)
            | none => none) else none
       | none => none)
    else some (freshS s (x ++ y) (n + m) d.size)
  | _ => none
def appendS (e : Env) (s : St) (t t2 : Nat) (a b : ST) : Option (ST × St) :=
  match e.ty.get t, e.ty.get t2 with
  | some ⟨.slice el, _, _, _⟩, some ⟨.slice _, _, _, _⟩ => match e.ty.get el with
    | some d => match slLen (asS a), slLen (asS b) with
      | some n, some m => match rowS e s.hp el n (asS a), rowS e s.hp el m (asS b) with
        | some x, some y => bif Nat.beq m 0 then some (a, s) else bif (Nat.ble (Nat.mul (n + m) d.bytes) 1000000000 && Nat.ble d.bytes 1000000) && (Nat.blt 0 d.size && Nat.ble (n + m) 1000000) then appendD s d a n m x y else none
        | _, _ => none
      | _, _ => none
    | none => none
  | _, _ => none
/-- copy: what is known is laid over what is known -/
def copyS (e : Env) (s : St) (t : Nat) (a b : ST) : Option (ST × St) :=
  match e.ty.get t with
  | some ⟨.slice el, _, _, _⟩ => match e.ty.get el with
    | some _ => match slLen b, a with
      | some m, .v (.c (.lf (.sl id off n _))) => match rowS e s.hp el (Nat.min m n) b, getB s.hp id with
        | some y, some bk => bif bk.wr && Nat.ble bk.off off then
            (match layL (off - bk.off) bk.cells y with
             | some l => some (kc .i64 (.lit (Nat.min m n)), ⟨s.tm, setB s.hp id ⟨bk.off, l, bk.wr, bk.ap⟩, s.nx, Nat.lor s.wr (bit1 id)⟩)
             | none => none) else none
        | _, _ => none
      | _, _ => none
    | none => none
  | _ => none
/-- bytes of cells, where all are numbers -/
def litBytes : List SC → Option (List Nat)
  | [] => some []
  | .lf (.int .u8 (.lit n)) :: r => match litBytes r with
    | some l => bif ile 0 n && ile n 255 then some (n.toNat :: l) else none
    | none => none
  | _ => none
def bytesOf : List Nat → List UInt8
  | [] => []
  | n :: r => UInt8.ofNat n :: bytesOf r
/-- a conversion: between numbers; a string to bytes, and back -/
def convM (e : Env) (s : St) (src dst : Nat) (x : ST) : Option (Option ST × St) :=
  match e.ty.get src, e.ty.get dst, x with
  | some ⟨.str, _, _, _⟩, some ⟨.slice el, _, _, _⟩, .v (.c (.lf (.val (.string b)))) => match e.ty.get el with
    | some ⟨.int .u8, 1, _, _⟩ => match freshS s (strCells (bytesL b.data.toList)) (lenL b.data.toList) 1 with | (v, s') => some (some v, s')
    | _ => none
  | some ⟨.slice el, _, _, _⟩, some ⟨.str, _, _, _⟩, x => match e.ty.get el, slLen (asS x) with
    | some ⟨.int .u8, 1, _, _⟩, some n => match rowS e s.hp el n (asS x) with
      | some l => match litBytes l with
        | some b => some (some (lfc (.val (.string ⟨(bytesOf b).toArray⟩))), s)
        | none => none
      | none => none
    | _, _ => none
  | some ⟨.slice el, _, _, _⟩, some ⟨.slice _, _, _, _⟩, .v (.c (.lf (.sl id off n cap))) => bif Nat.beq src dst then
      (match e.ty.get el, getB s.hp id with
       | some ⟨.int .u8, _, _, _⟩, some bk => some (some (lfc (.sl id off n cap)), ⟨s.tm, setB s.hp id ⟨bk.off, bk.cells, false, 0⟩, s.nx, Nat.lor s.wr (bit1 id)⟩)
       | _, _ => none) else none
  | some _, _, x => match convS' e dst x with
    | some r => some (some r, s)
    | none => none
  | none, _, _ => none
/-- an operation that looks at memory, and calls nothing -/
def memS (e : Env) (s : St) (op : Op) : Option (Option ST × St) :=
  match op with
  | .load t x => match evO s.tm x with
    | some a => match loadS e s.hp t a with | some v => some (some (.v v), s) | none => none
    | none => none
  | .store t x y => match evO s.tm x, evO s.tm y with
    | some a, some b => match storeS e s t a b with | some s' => some (none, s') | none => none
    | _, _ => none
  | .convert src dst x => match evO s.tm x with
    | some a => convM e s src dst a
    | none => none
  | .alloc t => match e.ty.get t with
    | some d => some (some (lfc (.ptr s.nx 0)), allocS s d.zero)
    | none => none
  | .box _ x => match evO s.tm x with
    | some (.v v) => some (some (lfc (.ptr s.nx 0)), allocS s (svCells v))
    | _ => none
  | .buildSlice t n ps => match e.ty.get t, evParts s.tm ps.toList with
    | some ⟨.slice el, _, _, _⟩, some l => match e.ty.get el with
      | some d => match buildOne e (repL d.zero n) (fun i => some (i * d.size, d.size)) l with
        | some cs => bif (Nat.blt 0 (Nat.mul n d.size) || Nat.beq n 0) && Nat.ble (Nat.mul n d.size) 1000000 then some (some (lfc (.sl s.nx 0 n (some n))), allocS s cs) else none
        | none => none
      | none => none
    | _, _ => none
  | .makeSlice t l c => match e.ty.get t, nat? (evO s.tm l), nat? (evO s.tm c) with
    | some ⟨.slice el, _, _, _⟩, some n, some m => match e.ty.get el with
      | some d => bif Nat.ble n m && (Nat.ble (Nat.mul d.bytes m) 1000000000 && Nat.ble m 1000000) then
          some (some (lfc (.sl s.nx 0 n (some m))), allocS s (repL d.zero m)) else none
      | none => none
    | _, _, _ => none
  | .call { callee := .builtin .append, args, argTypes } => match evL s.tm args.toList, argTypes.toList with
    | some [a, b], [t, t2] => match appendS e s t t2 a b with | some (v, s') => some (some v, s') | none => none
    | _, _ => none
  | .call { callee := .builtin .copy, args, argTypes } => match evL s.tm args.toList, argTypes.toList with
    | some [a, b], t :: _ => match copyS e s t (asS a) (asS b) with | some (v, s') => some (some v, s') | none => none
    | _, _ => none
  | _ => none

def argSlots : List ST → Nat → Tr ST → Tr ST
  | [], _, t => t
  | a :: r, i, t => argSlots r (Nat.succ i) (t.set i (some a))
def ofFirst : Bool × List LC → ST
  | (true, l) => .v (.agg (l.map .lf))
  | (false, x :: _) => lfc x
  | (false, []) => .tup []
/-- what a call enters -/
def calleeS (tm : Tr ST) (c : Call) : Option (Nat × List ST) :=
  match c.callee with
  | .value f => match evO tm f, evL tm c.args.toList with
    | some (.v (.c (.fn n fs cs))), some l => some (n, fs.map ofFirst ++ l ++ cs.map lfc)
    | _, _ => none
  | _ => none
/-- a function's results -/
def resultS (e : Env) (s : St) : ResultVar → Option SV
  | .tmp t => match s.tm.get t with | some (.v v) => some v | _ => none
  | .cell a t => match s.tm.get a with | some p => loadS e s.hp t p | none => none
def resultsS (e : Env) (s : St) (l : List ResultVar) : Option ST :=
  match l with
  | [r] => match resultS e s r with | some v => some (.v v) | none => none
  | l => match mapO (resultS e s) l with | some vs => some (.tup vs) | none => none

def plainL : LC → Bool
  | .ptr _ _ => false
  | .sptr _ _ _ _ _ => false
  | .sl _ _ _ _ => false
  | .own _ _ => false
  | _ => true
def plainC : SC → Bool
  | .lf x => plainL x
  | _ => false
def allL {α : Type} (f : α → Bool) : List α → Bool
  | [] => true
  | a :: r => bif f a then allL f r else false
def plainV : SV → Bool
  | .c x => plainC x
  | .agg l => allL plainC l
def plainT : ST → Bool
  | .v x => plainV x
  | .tup l => allL plainV l
def keepOld (n : Nat) : List (Nat × Blk) → List (Nat × Blk)
  | [] => []
  | (i, b) :: r => bif Nat.blt i n then (i, b) :: keepOld n r else keepOld n r
def bitOn (m i : Nat) : Bool := Nat.beq (Nat.land (Nat.shiftRight m i) 1) 1
/-- of two heaps, over one: what neither wrote stays; what they wrote is one of the two -/
def mgH (p : Bool) (m : Nat) (h1 h2 : List (Nat × Blk)) : List (Nat × Blk) → List (Nat × Blk)
  | [] => []
  | (i, b) :: r => bif bitOn m i then
      (match getB h1 i, getB h2 i with
       | some x, some y => bif Nat.beq x.off y.off && ((x.wr && y.wr) && Nat.beq x.ap y.ap) then
           (match mgCs p x.cells y.cells with
            | some l => (i, ⟨x.off, l, true, x.ap⟩) :: mgH p m h1 h2 r
            | none => mgH p m h1 h2 r) else mgH p m h1 h2 r
       | _, _ => mgH p m h1 h2 r)
    else (i, b) :: mgH p m h1 h2 r
/-- the bits of a mask that are blocks' -/
def mskH (m : Nat) : List (Nat × Blk) → Nat
  | [] => 0
  | (i, _) :: r => bif bitOn m i then Nat.lor (bit1 i) (mskH m r) else mskH m r
def mgSlots (p : Bool) (t1 t2 : Tr ST) : List Nat → Tr ST → Tr ST
  | [], t => t
  | w :: r, t => mgSlots p t1 t2 r (t.set w (match t1.get w, t2.get w with
    | some a, some b => mgT p a b
    | _, _ => none))
/-- of two states that came of one -/
def mgS (p : Bool) (ws : List Nat) (s s1 s2 : St) : St :=
  let m := Nat.lor s1.wr s2.wr
  bif Nat.beq m 0 then ⟨mgSlots p s1.tm s2.tm ws s.tm, s.hp, Nat.max s1.nx s2.nx, 0⟩
  else ⟨mgSlots p s1.tm s2.tm ws s.tm, mgH p m s1.hp s2.hp s.hp, Nat.max s1.nx s2.nx, mskH m s.hp⟩
def joinT (ws : List Nat) (s : St) : Tree → Option St
  | .leaf .normal s' => some s'
  | .leaf _ _ => none
  | .ite p a b => match joinT ws s a, joinT ws s b with
    | some x, some y => some (mgS p ws s x y)
    | _, _ => none
def addW (m : Nat) : Tree → Tree
  | .leaf e s => .leaf e { s with wr := Nat.lor m s.wr }
  | .ite p a b => .ite p (addW m a) (addW m b)
/-- joined, and what was written before -/
def joined (ws : List Nat) (m : Nat) (s : St) (t : Tree) : Tree :=
  match t with
  | .leaf e s' => .leaf e { s' with wr := Nat.lor m s'.wr }
  | t => match joinT ws s t with
    | some s' => .leaf .normal { s' with wr := Nat.lor m s'.wr }
    | none => addW m t

/-- what a call hands back, and the state behind it: of each way through it -/
inductive RTree where
  | leaf (v : ST) (s : St)
  | ite (p : Bool) (a b : RTree)
/-- is what was written of the old blocks plain -/
def tidy (n m : Nat) : List (Nat × Blk) → Bool
  | [] => true
  | (i, b) :: r => bif Nat.blt i n && bitOn m i then (bif allL plainC b.cells then tidy n m r else false) else tidy n m r
def retS (e : Env) (rs : List ResultVar) (s0 s : St) : Option RTree :=
  match resultsS e s rs with
  | some v => some (.leaf v ⟨s0.tm, bif plainT v && (Nat.beq (Nat.land s.wr (Nat.sub (bit1 s0.nx) 1)) 0 || tidy s0.nx s.wr s.hp) then keepOld s0.nx s.hp else s.hp, s.nx, s.wr⟩)
  | none => none
def RTree.of (e : Env) (rs : List ResultVar) (s0 : St) : Tree → Option RTree
  | .leaf .ret s => retS e rs s0 s
  | .leaf .normal s => retS e rs s0 s
  | .leaf _ _ => none
  | .ite p a b => match RTree.of e rs s0 a, RTree.of e rs s0 b with
    | some x, some y => some (.ite p x y)
    | _, _ => none
/-- one value and one state for all ways -/
def RTree.one (s0 : St) : RTree → Option (ST × St)
  | .leaf v s => bif plainT v then some (v, s) else none
  | .ite p a b => match RTree.one s0 a, RTree.one s0 b with
    | some (v, s1), some (u, s2) => match mgT p v u with
      | some w => some (w, mgS p [] s0 s1 s2)
      | none => none
    | _, _ => none
def addWR (m : Nat) : RTree → RTree
  | .leaf v s => .leaf v { s with wr := Nat.lor m s.wr }
  | .ite p a b => .ite p (addWR m a) (addWR m b)
def RTree.join (m : Nat) (s0 : St) (t : RTree) : RTree :=
  match t with
  | .leaf v s => .leaf v { s with wr := Nat.lor m s.wr }
  | t => match RTree.one s0 t with
    | some (v, s) => .leaf v { s with wr := Nat.lor m s.wr }
    | none => addWR m t
def bindR (f : ST → St → Option Tree) : RTree → Option Tree
  | .leaf v s => f v s
  | .ite p a b => match bindR f a, bindR f b with
    | some x, some y => some (.ite p x y)
    | _, _ => none
def bindT (f : St → Option Tree) : Tree → Option Tree
  | .leaf .normal s => f s
  | .leaf e s => some (.leaf e s)
  | .ite p a b => match bindT f a, bindT f b with
    | some x, some y => some (.ite p x y)
    | _, _ => none
def Tree.block (id : Nat) : Tree → Tree
  | .leaf (.exit i) s => bif Nat.beq i id then .leaf .normal s else .leaf (.exit i) s
  | .leaf e s => .leaf e s
  | .ite p a b => .ite p (Tree.block id a) (Tree.block id b)
def undefT : ST := .tup []
def nthOp (ops : List Oper) (j : Nat) : Option Nat := match nthL ops j with | some o => o.dst | none => none
def dsts : List Oper → List Nat
  | [] => []
  | o :: r => match o.dst with
    | some d => d :: dsts r
    | none => dsts r
/-- the slots that a code writes -/
def wslots : Code → List Nat
  | .region _ l _ => dsts l.toList
  | .seq a b => wslots a ++ wslots b
  | .cond _ a b => wslots a ++ wslots b
  | .block _ b => wslots b
  | .loop b => wslots b
  | .scope b => wslots b
  | _ => []

inductive Task where
  | ops (all l : List Oper) (s : St)
  | code (c : Code) (s : St)
/-- how an operation is run -/
inductive Cls where
  | mv (x : Operand)
  | bin (op : BinOp) (t : Nat) (x y : Operand)
  | ext (x : Operand) (i : Nat)
  | ld (t : Nat) (x : Operand)
  | idx (t : Nat) (x i : Operand)
  | call (c : Call)
  | mem (op : Op)
  | oth (op : Op)
def clsC (c : Call) : Cls :=
  match c.callee with
  | .builtin .append => .mem (.call c)
  | .builtin .copy => .mem (.call c)
  | .builtin _ => .oth (.call c)
  | _ => .call c
def cls : Op → Cls
  | .move x => .mv x
  | .assign x => .mv x
  | .binOp op t x y _ => .bin op t x y
  | .extract x i => .ext x i
  | .load t x => .ld t x
  | .index t x i => .idx t x i
  | .call c => clsC c
  | .store a b c => .mem (.store a b c)
  | .convert a b c => .mem (.convert a b c)
  | .alloc t => .mem (.alloc t)
  | .box t x => .mem (.box t x)
  | .buildSlice t n l => .mem (.buildSlice t n l)
  | .makeSlice t a b => .mem (.makeSlice t a b)
  | op => .oth op
def sizesOK (fn : Func) (body : Code) : Bool := allL (fun d => Nat.blt d fn.ntmps) (wslots body)
section
variable (e : Env) (ih : Task → Option Tree)
/-- a call: what it hands back, of each way through it -/
def goCall (tm : Tr ST) (hp : List (Nat × Blk)) (nx wr : Nat) : Option (Nat × List ST) → Option RTree
  | none => none
  | some (n, args) => match e.sm n args hp nx with
    | some (v, new, nx') => some (.leaf v ⟨tm, new ++ hp, nx', wr⟩)
    | none => match e.fn.get n with
      | none => none
      | some fn => match fn.body with
        | none => none
        | some body => bif sizesOK fn body && Nat.ble (lenL args) fn.ntmps then
            (match ih (.code body ⟨argSlots args 0 .nil, hp, nx, 0⟩) with
             | none => none
             | some t => match RTree.of e fn.results.toList ⟨tm, hp, nx, 0⟩ t with
               | none => none
               | some rt => some (RTree.join wr ⟨tm, hp, nx, 0⟩ rt)) else none
def leafV (s : St) : Option ST → Option RTree
  | none => none
  | some v => some (.leaf v s)
def goBin (op : BinOp) (t : Nat) (b : Option ST) : Option ST → Option ST
  | none => none
  | some a => match b with
    | none => none
    | some b => binS e op t a b
def goExt (i : Nat) : Option ST → Option ST
  | none => none
  | some a => extractS a i
def goLd (hp : List (Nat × Blk)) (t : Nat) : Option ST → Option ST
  | none => none
  | some a => match loadS e hp t a with | some v => some (.v v) | none => none
def goMem : Option (Option ST × St) → Option RTree
  | none => none
  | some (v, s) => some (.leaf (match v with | some x => x | none => undefT) s)
/-- a part that a number chooses: of what is no number, each for itself -/
def splitI (e : Env) (s : St) (t : Nat) (a : ST) (k : IntKind) (ix : SI) : Nat → Nat → Option RTree
  | 0, j => leafV s (indexS e t a (kc k (.lit (j : Int))))
  | m + 1, j => match leafV s (indexS e t a (kc k (.lit (j : Int)))), splitI e s t a k ix m (Nat.succ j) with
    | some x, some y => some (.ite (ix.val == (j : Int)) x y)
    | _, _ => none
def arrLen (e : Env) (t : Nat) : Nat := match e.ty.get t with
  | some ⟨.arr n _, _, _, _⟩ => n
  | _ => 0
def goIdx (s : St) (t : Nat) (i : Option ST) : Option ST → Option RTree
  | none => none
  | some a => match i with
    | none => none
    | some b => match indexS e t a b with
      | some v => some (.leaf v s)
      | none => match b with
        | .v (.c (.lf (.int k ix))) => bif (inB ix (arrLen e t) && Nat.ble (arrLen e t) 8) && Nat.ble 1 (arrLen e t) then splitI e s t a k ix (arrLen e t - 1) 0 else none
        | _ => none
/-- one operation -/
def oneOp (s : St) (c : Cls) : Option RTree :=
  match s with
  | ⟨tm, hp, nx, wr⟩ => match c with
    | .mv x => leafV ⟨tm, hp, nx, wr⟩ (evO tm x)
    | .bin op t x y => leafV ⟨tm, hp, nx, wr⟩ (goBin e op t (evO tm y) (evO tm x))
    | .ext x i => leafV ⟨tm, hp, nx, wr⟩ (goExt i (evO tm x))
    | .ld t x => leafV ⟨tm, hp, nx, wr⟩ (goLd e hp t (evO tm x))
    | .idx t x i => goIdx e ⟨tm, hp, nx, wr⟩ t (evO tm i) (evO tm x)
    | .call c => goCall e ih tm hp nx wr (calleeS tm c)
    | .mem op => goMem (memS e ⟨tm, hp, nx, wr⟩ op)
    | .oth op => leafV ⟨tm, hp, nx, wr⟩ (pureS e tm op)
/-- the state behind an operation -/
def putS (dst : Option Nat) (v : ST) (s : St) : St :=
  match s with
  | ⟨tm, hp, nx, wr⟩ => match dst with
    | some d => ⟨tm.set d (some v), hp, nx, wr⟩
    | none => ⟨tm, hp, nx, wr⟩
variable (all r : List Oper)
def contS (dst : Option Nat) (v : ST) (s : St) : Option Tree := ih (.ops all r (putS dst v s))
def runOp (dst : Option Nat) (s : St) (c : Cls) : Option Tree :=
  match oneOp e ih s c with
  | none => none
  | some rt => bindR (contS ih all r dst) rt
def setTm (d : Nat) (b : Bool) (s : St) : St := match s with | ⟨tm, hp, nx, _⟩ => ⟨tm.set d (some (bc (.lit b))), hp, nx, 0⟩
def zeroW (s : St) : St := match s with | ⟨tm, hp, nx, _⟩ => ⟨tm, hp, nx, 0⟩
def getW (s : St) : Nat := match s with | ⟨_, _, _, w⟩ => w
def getN (s : St) : Nat := match s with | ⟨_, _, n, _⟩ => n
def guardS (op : Op) (dst : Option Nat) (d : Nat) (want : Bool) (s : St) : Option ST → Option Tree
  | some (.v (.c (.lf (.bool (.lit b))))) => bif (bif b then want else !want) then runOp e ih all r dst s (cls op) else contS ih all r dst undefT s
  | some (.v (.c (.lf (.bool (.sym p))))) =>
    match runOp e ih all r dst (setTm d want s) (cls op), contS ih all r dst undefT (setTm d (!want) s) with
    | some a, some b => some (joined (dsts all) (getW s) (zeroW s) (bif want then .ite p a b else .ite p b a))
    | _, _ => none
  | some (.tup []) => contS ih all r dst undefT s
  | _ => none
def stepOper (o : Oper) (s : St) : Option Tree :=
  match o with
  | ⟨dst, op, _, _, _, guard⟩ => match guard with
      | none => runOp e ih all r dst s (cls op)
      | some (j, want) => match nthOp all j with
        | none => none
        | some d => guardS e ih all r op dst d want s (s.tm.get d)
end
/-- a region whose order is drawn -/
def tmpO : Operand → List Nat → List Nat
  | .tmp t, l => t :: l
  | _, l => l
def looks (all : List Oper) (o : Oper) : List Nat :=
  let l := o.op.operands.toList.foldr tmpO []
  match o.guard with
  | some (j, _) => match nthOp all j with | some d => d :: l | none => l
  | none => l
def memN (n : Nat) : List Nat → Bool
  | [] => false
  | a :: r => bif Nat.beq a n then true else memN n r
def outOf (d : Option Nat) (l : List Nat) : Bool := match d with | some d => !memN d l | none => true
def dstNe (d d' : Option Nat) : Bool := match d, d' with | some a, some b => !Nat.beq a b | _, _ => true
def apart (all : List Oper) (o o' : Oper) : Bool := (outOf o.dst (looks all o') && outOf o'.dst (looks all o)) && dstNe o.dst o'.dst
/-- what comes before each operation, in whatever order: a bit each; none where an edge does not go back -/
def befOne (bs : List Nat) (i : Nat) : List Edge → Nat → Option Nat
  | [], m => some m
  | e :: r, m => bif Region.binds .any e then
      (bif Nat.blt e.on i then (match nthL bs e.on with | some b => befOne bs i r (Nat.lor m (Nat.lor (bit1 e.on) b)) | none => none) else none)
    else befOne bs i r m
def befAll : List Oper → List Nat → Nat → Option (List Nat)
  | [], bs, _ => some bs
  | o :: r, bs, i => match befOne bs i o.after.toList 0 with
    | some m => befAll r (bs ++ [m]) (Nat.succ i)
    | none => none
def apartRow (all : List Oper) (o : Oper) (m : Nat) : List Oper → Nat → Bool
  | [], _ => true
  | o' :: r, j => bif bitOn m j then apartRow all o m r (Nat.succ j) else (bif apart all o o' then apartRow all o m r (Nat.succ j) else false)
def apartAll (all : List Oper) (bs : List Nat) : List Oper → Nat → Bool
  | [], _ => true
  | o :: r, i => match nthL bs i with
    | some m => bif apartRow all o m (takeL i all) 0 then apartAll all bs r (Nat.succ i) else false
    | none => false
/-- the orders' masks, where the operations of a region are apart as they must be -/
def plan (l : List Oper) : Option (List Nat) :=
  match befAll l [] 0 with
  | some bs => bif apartAll l bs l 0 then some bs else none
  | none => none
structure DRec where
  touch : Nat
  view : Nat
def unOf (m : Nat) : List DRec → Nat → Nat × Nat
  | [], _ => (0, 0)
  | d :: r, j => match unOf m r (Nat.succ j) with
    | (t, v) => bif bitOn m j then (t, v) else (Nat.lor t d.touch, Nat.lor v d.view)
def dropM (m : Nat) : List (Nat × Blk) → List (Nat × Blk)
  | [] => []
  | (i, b) :: r => bif bitOn m i then dropM m r else (i, b) :: dropM m r
def keepM (m : Nat) : List (Nat × Blk) → List (Nat × Blk)
  | [] => []
  | (i, b) :: r => bif bitOn m i then (i, b) :: keepM m r else keepM m r
def ptrId : Option ST → Option Nat
  | some (.v (.c (.lf (.ptr id _)))) => some id
  | some (.v (.c (.lf (.sptr id _ _ _ _)))) => some id
  | _ => none
def sliceId : Option ST → Option Nat
  | some (.v (.c (.lf (.sl id _ _ _)))) => some id
  | some (.v (.c (.lf (.own id _)))) => some id
  | _ => none
def oneB (hp : List (Nat × Blk)) : Option Nat → List (Nat × Blk) × Nat
  | some id => match getB hp id with
    | some b => ([(id, b)], bit1 id)
    | none => ([], 0)
  | none => ([], 0)
/-- which blocks an operation may look at -/
def viewOf (tm : Tr ST) (hp : List (Nat × Blk)) (nx un : Nat) : Cls → List (Nat × Blk) × Nat
  | .ld _ x => oneB hp (ptrId (evO tm x))
  | .mem (.store _ x _) => oneB hp (ptrId (evO tm x))
  | .mem (.convert _ _ x) => oneB hp (sliceId (evO tm x))
  | .mem (.call _) => (bif Nat.beq un 0 then hp else dropM un hp, Nat.xor (Nat.sub (bit1 nx) 1) un)
  | .call _ => (bif Nat.beq un 0 then hp else dropM un hp, Nat.xor (Nat.sub (bit1 nx) 1) un)
  | _ => ([], 0)
def restr (tm : Tr ST) : List Nat → Tr ST → Tr ST
  | [], t => t
  | k :: r, t => restr tm r (t.set k (tm.get k))
def guardB (tm : Tr ST) (all : List Oper) : Option (Nat × Bool) → Option Bool
  | none => some true
  | some (j, want) => match nthOp all j with
    | none => none
    | some d => match tm.get d with
      | some (.v (.c (.lf (.bool (.lit b))))) => some (bif b then want else !want)
      | some (.tup []) => some false
      | _ => none
section
variable (e : Env) (ih : Task → Option Tree)
/-- one operation of such a region, over what it may look at; what it touched, and what it looked at -/
def drawOne (all : List Oper) (o : Oper) (un : Nat) (s : St) : Option (ST × St × DRec) :=
  match s with
  | ⟨tm, hp, nx, _⟩ =>
    let tk := restr tm (looks all o) .nil
    match guardB tk all o.guard with
    | none => none
    | some false => some (undefT, s, ⟨0, 0⟩)
    | some true =>
      match viewOf tk hp nx un (cls o.op) with
      | (hk, view) => match oneOp e ih ⟨tk, hk, nx, 0⟩ (cls o.op) with
        | some (.leaf v ⟨_, h', nx', wr'⟩) =>
          let touch := Nat.lor wr' (Nat.sub (bit1 nx') (bit1 nx))
          some (v, ⟨tm, bif Nat.beq touch 0 then hp else keepM touch h' ++ dropM touch hp, nx', wr'⟩, ⟨touch, view⟩)
        | _ => none
def drawAll (all : List Oper) (bs : List Nat) : List Oper → List DRec → Nat → St → Option St
  | [], _, _, s => some s
  | o :: r, ds, i, s => match nthL bs i with
    | none => none
    | some m => match unOf m ds 0 with
      | (un, uv) => match drawOne e ih all o un s with
        | none => none
        | some (v, ⟨tm, hp, nx, wr⟩, d) =>
          bif ((Nat.beq (Nat.land d.touch uv) 0 && Nat.beq (Nat.land d.view un) 0) && Nat.beq (Nat.land d.touch un) 0) && (Nat.beq (Nat.shiftRight d.touch nx) 0 && Nat.ble (getN s) nx) then
            drawAll all bs r (ds ++ [d]) (Nat.succ i) (putS o.dst v ⟨tm, hp, nx, Nat.lor (getW s) wr⟩)
          else none
def drawS (l : List Oper) (s : St) : Option Tree :=
  match plan l with
  | none => none
  | some bs => match drawAll e ih l bs l [] 0 s with
    | none => none
    | some s' => some (.leaf .normal s')
def stepOps (all l : List Oper) (s : St) : Option Tree :=
  match l with
  | [] => some (.leaf .normal s)
  | o :: r => stepOper e ih all r o s
def codeSeq (b : Code) : Option Tree → Option Tree
  | none => none
  | some t => bindT (fun s => ih (.code b s)) t
def codeCond (a b : Code) (s : St) : Option ST → Option Tree
  | some (.v (.c (.lf (.bool (.lit t))))) => bif t then ih (.code a s) else ih (.code b s)
  | some (.v (.c (.lf (.bool (.sym p))))) =>
    match ih (.code a (zeroW s)), ih (.code b (zeroW s)) with
    | some x, some y => some (joined (wslots a ++ wslots b) (getW s) (zeroW s) (.ite p x y))
    | _, _ => none
  | _ => none
def codeBlock (id : Nat) (b : Code) (s : St) : Option Tree → Option Tree
  | none => none
  | some t => some (joined (wslots b) (getW s) (zeroW s) (Tree.block id t))
def stepCode (c : Code) (s : St) : Option Tree :=
  match c with
  | .skip => some (.leaf .normal s)
  | .region _ l draw => bif draw then drawS e ih l.toList s else ih (.ops l.toList l.toList s)
  | .seq a b => codeSeq ih b (ih (.code a s))
  | .cond c a b => codeCond ih a b s (evO s.tm c)
  | .block id b => codeBlock id b s (ih (.code b (zeroW s)))
  | .loop b => codeSeq ih (.loop b) (ih (.code b s))
  | .exit id => some (.leaf (.exit id) s)
  | .ret => some (.leaf .ret s)
  | .scope b => ih (.code b s)
  | .label _ => some (.leaf .normal s)
  | _ => none
def stepT (t : Task) : Option Tree :=
  match t with
  | .ops all l s => stepOps e ih all l s
  | .code c s => stepCode e ih c s
end
def exec (e : Env) (fuel : Nat) : Task → Option Tree := Nat.rec (motive := fun _ => Task → Option Tree) (fun _ => none) (fun _ ih => stepT e ih) fuel
/-- a function on arguments -/
def callS (e : Env) (fuel n : Nat) (args : List ST) (hp : List (Nat × Blk)) (nx : Nat) : Option RTree := goCall e (exec e fuel) .nil hp nx 0 (some (n, args))
end
end Go.Proofs.YtpkclnkibhgpkaaGreat.Sx
