/- The engine, part 1: an abstract evaluator for the model's code: a small code of its own (compiled from the model's), an abstract heap, and a function that runs it. Nothing is claimed here. -/
import GoSem.Step
import Derived.Laws.World
import Derived.Laws.Sem

section
namespace Go.Proofs.YtlbmihpmcgiinaaGreatDoor.Own
open Go

/-! ## A map from numbers -/
inductive Tr (α : Type) where
  | leaf
  | node (l : Tr α) (v : Option α) (r : Tr α)

def Tr.getF {α : Type} (f : Nat) : Tr α → Nat → Option α :=
  Nat.rec (motive := fun _ => Tr α → Nat → Option α) (fun _ _ => none)
    (fun _ ih t n => Tr.casesOn (motive := fun _ => Option α) t none (fun l v r => Nat.casesOn (motive := fun _ => Option α) n v (fun m =>
      Bool.casesOn (motive := fun _ => Option α) (Nat.beq (Nat.mod m 2) 0) (ih r (Nat.div m 2)) (ih l (Nat.div m 2))))) f

def Tr.get {α : Type} (t : Tr α) (n : Nat) : Option α := Tr.getF (Nat.succ n) t n

def Tr.setF {α : Type} (x : Option α) (f : Nat) : Tr α → Nat → Tr α :=
  Nat.rec (motive := fun _ => Tr α → Nat → Tr α) (fun t _ => t)
    (fun _ ih t n => Nat.casesOn (motive := fun _ => Tr α) n
      (Tr.casesOn (motive := fun _ => Tr α) t (.node .leaf x .leaf) (fun l _ r => .node l x r))
      (fun m => Bool.casesOn (motive := fun _ => Tr α) (Nat.beq (Nat.mod m 2) 0)
        (Tr.casesOn (motive := fun _ => Tr α) t (.node .leaf none (ih .leaf (Nat.div m 2))) (fun l v r => .node l v (ih r (Nat.div m 2))))
        (Tr.casesOn (motive := fun _ => Tr α) t (.node (ih .leaf (Nat.div m 2)) none .leaf) (fun l v r => .node (ih l (Nat.div m 2)) v r)))) f

def Tr.set {α : Type} (t : Tr α) (n : Nat) (x : Option α) : Tr α := Tr.setF x (Nat.succ n) t n

/-! ## Kinds -/
/-- What '==' compares. -/
inductive EqKind where
  | ptr | slice | map | func | iface
  deriving DecidableEq, Repr

inductive Out where
  | normal
  | exit (id : Nat)
  | ret
  deriving DecidableEq, Repr

/-! ## The heap -/
inductive AObj where
  | cells (c : List Value) (elem : TypeId) (froz : Bool) (esz : Nat)
  | map (es : List MapEntry) (clock : Nat)
  | miter (m : Option Nat) (since : Nat) (seen : List Nat) (stepped : Nat)
  | siter (s : ByteArray) (pos : Nat)
  | loop (st : LoopState) (pend : Option Out)

structure AH where
  tr : Tr AObj
  ctr : Nat
  ro : Nat
  hid : List (Nat × Nat)

def hidden (l : List (Nat × Nat)) (n : Nat) : Bool := l.any fun p => Nat.ble p.1 n && Nat.blt n p.2

def AH.get (H : AH) (n : Nat) : Option AObj :=
  match H.hid with
  | [] => H.tr.get n
  | l => match hidden l n with
    | true => none
    | false => H.tr.get n

def AH.put (H : AH) (n : Nat) (o : Option AObj) : AH := { H with tr := H.tr.set n o }

/-- A new block: 'odd' where its room is not known. -/
def AH.new (H : AH) (odd : Bool) (o : AObj) : Nat × AH :=
  let n := if odd then H.ctr + 1 else H.ctr
  (n, { H with tr := H.tr.set n (some o), ctr := H.ctr + 2 })

/-- A written cell. -/
def AH.write (H : AH) (n : Nat) (o : AObj) : Option AH :=
  match Nat.ble H.ro n with
  | true => some (H.put n (some o))
  | false => none

/-! ## Values -/
def uv : Value := .tuple #[]

def scal : Nat → Value → Bool
  | _, .bool _ | _, .int _ _ | _, .float _ _ | _, .complex _ _ _ | _, .string _ | _, .nilFunc | _, .nilIface | _, .pointer none | _, .map none => true
  | _, .slice none 0 0 => true
  | _, .func (.func _) ⟨[]⟩ ⟨[]⟩ => true
  | n + 1, .iface _ v => scal n v
  | n + 1, .agg cs => cs.toList.all (scal n)
  | n + 1, .tuple cs => cs.toList.all (scal n)
  | _, _ => false

def okOpd (G : Nat) : Operand → Bool
  | .const v => scal 4 v
  | .global g => Nat.blt g G
  | _ => true

def opv (T : Tr Value) : Operand → Value
  | .tmp t => match T.get t with | some v => v | none => uv
  | .const v => v
  | .global g => .pointer (some ⟨2 * g, 0, none⟩)
  | .func f => .func (.func f) #[] #[]

def setDst (T : Tr Value) : Option Tmp → Value → Tr Value
  | some d, v => T.set d (some v)
  | none, _ => T

def wrapK (k : IntKind) (n : Int) : Int :=
  match k with
  | .i64 => match n with
    | .ofNat m => cond (Nat.blt m 9223372036854775808) (.ofNat m) (IntKind.wrap .i64 (.ofNat m))
    | .negSucc m => cond (Nat.blt m 9223372036854775808) (.negSucc m) (IntKind.wrap .i64 (.negSucc m))
  | k => k.wrap n

def bstr (l : List UInt8) : Value := .string ⟨l.toArray⟩

def bytesLt : List UInt8 → List UInt8 → Bool
  | _, [] => false
  | [], _ :: _ => true
  | a :: x, b :: y => a < b || (a == b && bytesLt x y)

def binA (op : BinOp) (x y : Value) : Option Value :=
  match x, y with
  | .int k a, .int k' b =>
    match op with
    | .shl => if b < 0 then none else some (.int k (k.wrap (a * 2 ^ (min b.toNat k.bits))))
    | .shr => if b < 0 then none else some (.int k (a.fdiv (2 ^ (min b.toNat k.bits))))
    | op => if k = k' then (match op with
      | .add => some (.int k (wrapK k (Int.add a b)))
      | .sub => some (.int k (wrapK k (Int.sub a b)))
      | .mul => some (.int k (wrapK k (Int.mul a b)))
      | .quo => if b = 0 then none else some (.int k (wrapK k (a.tdiv b)))
      | .rem => if b = 0 then none else some (.int k (a.tmod b))
      | .eql => some (.bool (a == b))
      | .neq => some (.bool (a != b))
      | .lss => some (.bool (decide (a < b)))
      | .leq => some (.bool (decide (a ≤ b)))
      | .gtr => some (.bool (decide (a > b)))
      | .geq => some (.bool (decide (a ≥ b)))
      | .and => some (.int k (k.wrap ((BitVec.ofInt k.bits a) &&& (BitVec.ofInt k.bits b)).toNat))
      | .or => some (.int k (k.wrap ((BitVec.ofInt k.bits a) ||| (BitVec.ofInt k.bits b)).toNat))
      | .xor => some (.int k (k.wrap ((BitVec.ofInt k.bits a) ^^^ (BitVec.ofInt k.bits b)).toNat))
      | .andNot => some (.int k (k.wrap ((BitVec.ofInt k.bits a) &&& ~~~(BitVec.ofInt k.bits b)).toNat))
      | _ => none) else none
  | .string a, .string b =>
    match op with
    | .add => if ((a.size + b.size : Nat) : Int) > IntKind.i64.max then none else some (bstr (a.data.toList ++ b.data.toList))
    | .eql => some (.bool (a.data.toList == b.data.toList))
    | .neq => some (.bool (!(a.data.toList == b.data.toList)))
    | .lss => some (.bool (bytesLt a.data.toList b.data.toList))
    | .leq => some (.bool (bytesLt a.data.toList b.data.toList || a.data.toList == b.data.toList))
    | .gtr => some (.bool (!(bytesLt a.data.toList b.data.toList || a.data.toList == b.data.toList)))
    | .geq => some (.bool (!(bytesLt a.data.toList b.data.toList)))
    | _ => none
  | _, _ => none

/-- '==' of bools. -/
def binB (op : BinOp) (x y : Value) : Option Value :=
  match op, x, y with
  | .eql, .bool a, .bool b => some (.bool (a == b))
  | .neq, .bool a, .bool b => some (.bool (!(a == b)))
  | _, _, _ => none

/-- '==' where a part may be an address. -/
def eqA (k : EqKind) (x y : Value) : Option Bool :=
  match k, x, y with
  | .ptr, .pointer none, .pointer b => some b.isNone
  | .ptr, .pointer (some _), .pointer none => some false
  | .ptr, .pointer (some a), .pointer (some b) => if a.block = b.block then some (a == b) else none
  | .slice, .slice none _ _, .slice b _ _ => some b.isNone
  | .slice, .slice (some _) _ _, .slice none _ _ => some false
  | .map, .map none, .map b => some b.isNone
  | .map, .map (some _), .map none => some false
  | .func, .nilFunc, .nilFunc => some true
  | .func, .nilFunc, .func _ _ _ => some false
  | .func, .func _ _ _, .nilFunc => some false
  | .iface, .nilIface, .nilIface => some true
  | .iface, .nilIface, .iface _ _ => some false
  | .iface, .iface _ _, .nilIface => some false
  | _, _, _ => none

def asAddrA : Value → Option Addr
  | .pointer (some a) => some a
  | _ => none

def asNatA : Value → Option Nat
  | .int _ (.ofNat n) => some n
  | _ => none

/-- An index below 'n'. -/
def below (v : Value) (n : Nat) : Option Nat :=
  match asNatA v with
  | some i => if Nat.blt i n then some i else none
  | none => none

def upto (v : Value) (n : Nat) : Option Nat :=
  match asNatA v with
  | some i => if Nat.ble i n then some i else none
  | none => none

def consO (x : Value) (l : Option (List Value)) : Option (List Value) := match l with | some l => some (x :: l) | none => none

/-- The first n of a list that has as many. -/
def takeX : List Value → Nat → Option (List Value)
  | _, 0 => some []
  | [], _ + 1 => none
  | x :: l, n + 1 => consO x (takeX l n)

def dropX : List Value → Nat → List Value
  | l, 0 => l
  | [], _ + 1 => []
  | _ :: l, n + 1 => dropX l n

def overX : List Value → List Value → Option (List Value)
  | c, [] => some c
  | [], _ :: _ => none
  | _ :: c, v :: vs => consO v (overX c vs)

/-- A list with some of its elements, from the n-th on, replaced. -/
def putX : List Value → Nat → List Value → Option (List Value)
  | c, 0, vs => overX c vs
  | [], _ + 1, _ => none
  | x :: c, n + 1, vs => consO x (putX c n vs)

def fillA (ρ : Operand → Value) : List (Nat × Nat × Operand) → List Value → Option (List Value)
  | [], c => some c
  | (off, size, x) :: rest, c =>
    match Nat.beq (ρ x).cells.toList.length size, putX c off (ρ x).cells.toList with
    | true, some c => fillA ρ rest c
    | _, _ => none

def readCells (H : AH) (a : Addr) (n : Nat) : Option (List Value) :=
  match a.spot, H.get a.block with
  | none, some (.cells c _ _ _) => takeX (dropX c a.off) n
  | _, _ => none

/-- Is a value one cell? -/
def oneA : Value → Bool
  | .agg _ | .tuple _ => false
  | _ => true

def writeCells (H : AH) (a : Addr) (vs : List Value) : Option AH :=
  match a.spot, H.get a.block, vs.all oneA with
  | none, some (.cells c e false z), true => match putX c a.off vs with
    | some c => H.write a.block (.cells c e false z)
    | none => none
  | _, _, _ => none

def partA (agg : Bool) (cs : List Value) (off size : Nat) : Option Value :=
  match agg with
  | true => match takeX (dropX cs off) size with | some c => some (.agg c.toArray) | none => none
  | false => cs[off]?

def mapO (ρ : Operand → Value) : Option Operand → Option Value
  | some x => some (ρ x)
  | none => none

/-- low, high, max of a slice expression. -/
def bounds3 (len cap : Nat) (lo hi mx : Option Value) : Option (Nat × Nat × Nat) :=
  match (match mx with | some v => upto v cap | none => some cap) with
  | none => none
  | some m =>
    match (match hi, mx with | some v, _ => upto v m | none, none => some len | none, some _ => none) with
    | none => none
    | some h =>
      match (match lo with | some v => upto v h | none => some 0) with
      | none => none
      | some l => some (l, h, m)

def moved (a : Addr) (n : Nat) : Addr := if n = 0 then a else { a with off := a.off + n, spot := none }

/-- The empty slice somewhere. -/
def nowhere : Value := .slice (some ⟨0, 0, some 0⟩) 0 0

def sliceA (H : AH) (size : Nat) (x : Value) (lo hi mx : Option Value) : Option Value :=
  match x with
  | .slice none 0 0 =>
    match bounds3 0 0 lo hi mx with
    | some _ => some x
    | none => none
  | .slice (some a) len cap =>
    match a.spot with
    | some _ => match bounds3 0 0 lo hi mx with | some _ => some x | none => none
    | none =>
      match bounds3 len cap lo hi mx with
      | none => none
      | some (l, h, m) =>
        match Nat.beq (a.block % 2) 0, mx with
        | true, _ => some (.slice (some (if m = l then a else moved a (l * size))) (h - l) (m - l))
        | false, none => match Nat.blt l m, H.get a.block with
          | true, some (.cells _ _ _ z) => if z = size then some (.slice (some (moved a (l * size))) (h - l) (m - l)) else none
          | true, _ => none
          | false, _ => if l = 0 then some x else some nowhere
        | false, some _ => none
  | _ => none

def firstA (H : AH) (size : Nat) : Value → Option (List Value)
  | .slice (some a) n _ => match a.spot with | some _ => some [] | none => readCells H a (n * size)
  | .slice none _ _ => some []
  | .string s => some (s.data.toList.map fun b => .int .u8 b.toNat)
  | _ => none

def lenA : Value → Option Nat
  | .slice _ n _ => some n
  | .string s => some s.data.toList.length
  | _ => none

/-- 2^36: what is laid in one piece takes at most so many bytes. -/
def roomA : Nat := 68719476736

def newSl (elem : TypeId) (size : Nat) (H : AH) (cells : List Value) (need : Nat) : Value × AH :=
  let (m, H) := H.new true (.cells cells elem false size)
  (.slice (some ⟨m, 0, none⟩) need need, H)

def appendA (elem : TypeId) (size bytes : Nat) (H : AH) (s : Value) (n : Nat) (new : List Value) : Option (Value × AH) :=
  match s with
  | .slice none 0 0 =>
    match Nat.beq n 0, Nat.ble (n * (bytes + 1)) roomA with
    | true, _ => some (s, H)
    | false, true => some (newSl elem size H new n)
    | false, false => none
  | .slice (some a) len cap =>
    match a.spot with
    | some _ => if n = 0 then some (s, H) else none
    | none =>
      match Nat.beq n 0, Nat.ble (len + n) cap with
      | true, _ => some (s, H)
      | false, true => match writeCells H (moved a (len * size)) new with
        | some H => some (.slice (some a) (len + n) cap, H)
        | none => none
      | false, false =>
        match Nat.ble ((len + n) * (bytes + 1)) roomA, readCells H a (len * size), H.get a.block with
        | true, some old, some (.cells _ e f z) =>
          match Nat.beq (a.block % 2) 0, f, Nat.ble H.ro a.block && (Nat.beq z size && (Nat.beq e elem && new.all oneA)) with
          | true, _, _ => some (newSl elem size H (old ++ new) (len + n))
          | false, false, true => some (newSl elem size (H.put a.block none) (old ++ new) (len + n))
          | _, _, _ => none
        | _, _, _ => none
  | _ => none

def copies (zero : List Value) : Nat → List Value
  | 0 => []
  | n + 1 => zero ++ copies zero n

def maxA (isMax : Bool) : Value → List Value → Option Value
  | x, [] => some x
  | .int k x, .int _ y :: rest => maxA isMax (.int k (if isMax then (if y > x then y else x) else (if y < x then y else x))) rest
  | _, _ => none

def keyOk : Value → Bool
  | .int _ _ | .string _ | .bool _ => true
  | _ => false

def sameKey : TypeDesc → Value → Value → Option Bool
  | .int _, .int k a, .int k' b => if k = k' then some (a == b) else none
  | .string, .string a, .string b => some (a.data.toList == b.data.toList)
  | .bool, .bool a, .bool b => some (a == b)
  | _, _, _ => none

def findA (kt : TypeDesc) (k : Value) : List MapEntry → Nat → Option (Option (Nat × Value))
  | [], _ => some none
  | e :: es, i =>
    match sameKey kt k e.key with
    | some true => some (some (i, e.val))
    | some false => findA kt k es (i + 1)
    | none => none

def setVal : List MapEntry → Nat → Value → Value → List MapEntry
  | [], _, _, _ => []
  | e :: es, 0, k, v => { e with key := k, val := v } :: es
  | e :: es, i + 1, k, v => e :: setVal es i k v

abbrev CallA := Value → List Value → AH → Option (Value × AH)

def valOf {α : Type} (P : Program) : Sem α → Option α
  | .pure a => some a
  | .program k => valOf P (k P)
  | .mark _ k => valOf P k
  | _ => none

/-- A value without a new heap. -/
def vH (H : AH) (x : Option Value) : Option (Value × AH) := match x with | some x => some (x, H) | none => none

def evMove (ρ : Operand → Value) (H : AH) (x : Operand) : Option (Value × AH) :=
  some (ρ x, H)

def evPick (ρ : Operand → Value) (H : AH) (c : Operand) (a : Operand) (b : Operand) : Option (Value × AH) :=
  match ρ c with | .bool true => some (ρ a, H) | .bool false => some (ρ b, H) | _ => none

def evAlloc (H : AH) (e : TypeId) (z : List Value) : Option (Value × AH) :=
  let (n, H) := H.new false (.cells z e false 0); some (.pointer (some ⟨n, 0, none⟩), H)

def evBox (ρ : Operand → Value) (H : AH) (e : TypeId) (x : Operand) : Option (Value × AH) :=
  let (n, H) := H.new false (.cells (ρ x).cells.toList e false 0); some (.pointer (some ⟨n, 0, none⟩), H)

def evBuild (ρ : Operand → Value) (H : AH) (z : List Value) (parts : List (Nat × Nat × Operand)) : Option (Value × AH) :=
  match fillA ρ parts z with | some c => some (.agg c.toArray, H) | none => none

def evBslice (ρ : Operand → Value) (H : AH) (e : TypeId) (z : List Value) (len : Nat) (parts : List (Nat × Nat × Operand)) : Option (Value × AH) :=
  
  match fillA ρ parts (copies z len) with
  | some c => let (n, H) := H.new false (.cells c e false 0); some (.slice (some ⟨n, 0, none⟩) len len, H)
  | none => none

def evLoad1 (ρ : Operand → Value) (H : AH) (x : Operand) : Option (Value × AH) :=
  match asAddrA (ρ x) with
  | some a => match readCells H a 1 with | some [c] => some (c, H) | _ => none
  | none => none

def evLoadN (ρ : Operand → Value) (H : AH) (n : Nat) (x : Operand) : Option (Value × AH) :=
  match asAddrA (ρ x) with
  | some a => match readCells H a n with | some c => some (.agg c.toArray, H) | none => none
  | none => none

def evStore (ρ : Operand → Value) (H : AH) (n : Nat) (a : Operand) (x : Operand) : Option (Value × AH) :=
  match asAddrA (ρ a) with
  | some a => match Nat.beq (ρ x).cells.toList.length n with
    | true => match writeCells H a (ρ x).cells.toList with | some H => some (uv, H) | none => none
    | false => none
  | none => none

def evNilCheck (ρ : Operand → Value) (H : AH) (x : Operand) : Option (Value × AH) :=
  match ρ x with
  | .pointer (some a) => some (.pointer (some a), H)
  | .func (.func f) a b => some (.func (.func f) a b, H)
  | _ => none

def evBin (ρ : Operand → Value) (H : AH) (op : BinOp) (x : Operand) (y : Operand) : Option (Value × AH) :=
  vH H (binA op (ρ x) (ρ y))

def evBinB (ρ : Operand → Value) (H : AH) (op : BinOp) (x y : Operand) : Option (Value × AH) := vH H (binB op (ρ x) (ρ y))

def evEqk (ρ : Operand → Value) (H : AH) (k : EqKind) (neg : Bool) (x : Operand) (y : Operand) : Option (Value × AH) :=
  match eqA k (ρ x) (ρ y) with | some b => some (.bool (if neg then !b else b), H) | none => none

def evUn (ρ : Operand → Value) (H : AH) (op : UnOp) (x : Operand) : Option (Value × AH) :=
  match op, ρ x with
  | .not, .bool b => some (.bool !b, H)
  | .neg, .int k n => some (.int k (k.wrap (0 - n)), H)
  | _, _ => none

def evConvInt (ρ : Operand → Value) (H : AH) (k : IntKind) (x : Operand) : Option (Value × AH) :=
  match ρ x with | .int _ n => some (.int k (k.wrap n), H) | _ => none

def evConvStr (ρ : Operand → Value) (H : AH) (x : Operand) : Option (Value × AH) :=
  match ρ x with | .string s => some (.string s, H) | _ => none

def evFieldAddr (ρ : Operand → Value) (H : AH) (off : Nat) (x : Operand) : Option (Value × AH) :=
  match ρ x with
  | .pointer (some a) => match a.spot with | none => some (.pointer (some (moved a off)), H) | some _ => none
  | _ => none

def evIdxS (ρ : Operand → Value) (H : AH) (size : Nat) (x : Operand) (i : Operand) : Option (Value × AH) :=
  match ρ x with
  | .slice (some a) n _ => match a.spot with
    | none => match below (ρ i) n with | some j => some (.pointer (some (moved a (j * size))), H) | none => none
    | some _ => none
  | _ => none

def evIdxA (ρ : Operand → Value) (H : AH) (n : Nat) (size : Nat) (x : Operand) (i : Operand) : Option (Value × AH) :=
  match ρ x with
  | .pointer (some a) => match a.spot with
    | none => match below (ρ i) n with | some j => some (.pointer (some (moved a (j * size))), H) | none => none
    | some _ => none
  | _ => none

def evIdxV (ρ : Operand → Value) (H : AH) (n : Nat) (size : Nat) (agg : Bool) (x : Operand) (i : Operand) : Option (Value × AH) :=
  match ρ x with
  | .agg cs => match below (ρ i) n with | some j => vH H (partA agg cs.toList (j * size) size) | none => none
  | _ => none

def evIdxStr (ρ : Operand → Value) (H : AH) (x : Operand) (i : Operand) : Option (Value × AH) :=
  match ρ x with
  | .string s => match asNatA (ρ i) with
    | some j => match s.data.toList[j]? with | some b => some (.int .u8 b.toNat, H) | none => none
    | none => none
  | _ => none

def evFieldV (ρ : Operand → Value) (H : AH) (off : Nat) (size : Nat) (agg : Bool) (x : Operand) : Option (Value × AH) :=
  match ρ x with | .agg cs => vH H (partA agg cs.toList off size) | _ => none

def evExtract (ρ : Operand → Value) (H : AH) (x : Operand) (i : Nat) : Option (Value × AH) :=
  match ρ x with | .tuple vs => vH H vs.toList[i]? | _ => none

def evLenS (ρ : Operand → Value) (H : AH) (x : Operand) : Option (Value × AH) :=
  match ρ x with | .slice _ n _ => some (.int .i64 n, H) | _ => none

def evLenStr (ρ : Operand → Value) (H : AH) (x : Operand) : Option (Value × AH) :=
  match ρ x with | .string s => some (.int .i64 s.data.toList.length, H) | _ => none

def evLenM (ρ : Operand → Value) (H : AH) (x : Operand) : Option (Value × AH) :=
  match ρ x with
  | .map none => some (.int .i64 0, H)
  | .map (some r) => match H.get r with | some (.map es _) => some (.int .i64 es.length, H) | _ => none
  | _ => none

def evConstLen (H : AH) (n : Nat) : Option (Value × AH) :=
  some (.int .i64 n, H)

def evCap (ρ : Operand → Value) (H : AH) (x : Operand) : Option (Value × AH) :=
  match ρ x with
  | .slice none 0 0 => some (.int .i64 0, H)
  | .slice (some a) _ c => match a.spot, Nat.beq (a.block % 2) 0 with | none, true => some (.int .i64 c, H) | _, _ => none
  | _ => none

def evSliceS (ρ : Operand → Value) (H : AH) (size : Nat) (x : Operand) (lo : Option Operand) (hi : Option Operand) (mx : Option Operand) : Option (Value × AH) :=
  vH H (sliceA H size (ρ x) (mapO ρ lo) (mapO ρ hi) (mapO ρ mx))

def evSliceA (ρ : Operand → Value) (H : AH) (n : Nat) (size : Nat) (x : Operand) (lo : Option Operand) (hi : Option Operand) (mx : Option Operand) : Option (Value × AH) :=
  match ρ x with
  | .pointer (some a) => match a.spot with
    | none => match bounds3 n n (mapO ρ lo) (mapO ρ hi) (mapO ρ mx) with
      | some (l, h, m) => if Nat.beq (a.block % 2) 0 then some (.slice (some (if m = l then a else moved a (l * size))) (h - l) (m - l), H) else none
      | none => none
    | some _ => none
  | _ => none

def evSliceStr (ρ : Operand → Value) (H : AH) (x : Operand) (lo : Option Operand) (hi : Option Operand) : Option (Value × AH) :=
  match ρ x with
  | .string s => let l := s.data.toList
    match bounds3 l.length l.length (mapO ρ lo) (mapO ρ hi) none with
    | some (i, h, _) => some (bstr ((l.drop i).take (h - i)), H)
    | none => none
  | _ => none

def evAppend (ρ : Operand → Value) (H : AH) (e : TypeId) (size : Nat) (bytes : Nat) (s : Operand) (x : Operand) : Option (Value × AH) :=
  match lenA (ρ x), firstA H size (ρ x) with
  | some n, some new => if new.length = n * size then appendA e size bytes H (ρ s) n new else none
  | _, _ => none

def evAppendZ (ρ : Operand → Value) (H : AH) (e : TypeId) (size : Nat) (bytes : Nat) (z : List Value) (s : Operand) (n : Operand) : Option (Value × AH) :=
  match asNatA (ρ n) with
  | some n => if Nat.ble (n * (bytes + 1)) roomA then appendA e size bytes H (ρ s) n (copies z n) else none
  | none => none

def evCopy (ρ : Operand → Value) (H : AH) (size : Nat) (d : Operand) (s : Operand) : Option (Value × AH) :=
  match lenA (ρ s), firstA H size (ρ s), ρ d with
  | some n, some c, .slice (some a) m _ => match a.spot with
    | none => let k := Nat.min n m
      match writeCells H a (c.take (k * size)) with | some H => some (.int .i64 k, H) | none => if k = 0 then some (.int .i64 0, H) else none
    | some _ => some (.int .i64 0, H)
  | some _, some _, .slice none _ _ => some (.int .i64 0, H)
  | _, _, _ => none

def evMkSlice (ρ : Operand → Value) (H : AH) (e : TypeId) (_size : Nat) (bytes : Nat) (z : List Value) (l : Operand) (c : Operand) : Option (Value × AH) :=
  match ρ l, ρ c with
  | .int _ (.ofNat l), .int _ (.ofNat c) =>
    if Nat.ble l c && Nat.ble (c * (bytes + 1)) roomA then
      let (n, H) := H.new false (.cells (copies z c) e false 0)
      some (.slice (some ⟨n, 0, none⟩) l c, H)
    else none
  | _, _ => none

def evMkMap (ρ : Operand → Value) (H : AH) (r : Option Operand) : Option (Value × AH) :=
  match mapO ρ r with
  | none | some (.int _ _) => let (n, H) := H.new false (.map [] 0); some (.map (some n), H)
  | _ => none

def evMapSet (ρ : Operand → Value) (H : AH) (kt : TypeDesc) (m : Operand) (k : Operand) (x : Operand) : Option (Value × AH) :=
  match ρ m with
  | .map (some r) => match H.get r with
    | some (.map es clock) => match keyOk (ρ k) with
      | true => match findA kt (ρ k) es 0 with
        | some (some (i, _)) => match H.write r (.map (setVal es i (ρ k) (ρ x)) clock) with | some H => some (uv, H) | none => none
        | some none => match H.write r (.map (es ++ [⟨ρ k, ρ x, clock⟩]) (clock + 1)) with | some H => some (uv, H) | none => none
        | none => none
      | false => none
    | _ => none
  | _ => none

def evLookup (ρ : Operand → Value) (H : AH) (kt : TypeDesc) (z : Value) (m : Operand) (k : Operand) (ok : Bool) : Option (Value × AH) :=
  match (match ρ m with
    | .map none => some []
    | .map (some r) => match H.get r with | some (.map es _) => some es | _ => none
    | _ => none) with
  | some es => match keyOk (ρ k), findA kt (ρ k) es 0 with
    | true, some (some (_, x)) => some (if ok then .tuple #[x, .bool true] else x, H)
    | true, some none => some (if ok then .tuple #[z, .bool false] else z, H)
    | _, _ => none
  | none => none

def evRangeMap (ρ : Operand → Value) (H : AH) (x : Operand) : Option (Value × AH) :=
  match ρ x with
  | .map none => let (n, H) := H.new false (.miter none 0 [] 0); some (.pointer (some ⟨n, 0, none⟩), H)
  | .map (some r) => match H.get r with
    | some (.map _ clock) => let (n, H) := H.new false (.miter (some r) clock [] clock); some (.pointer (some ⟨n, 0, none⟩), H)
    | _ => none
  | _ => none

def evRangeStr (ρ : Operand → Value) (H : AH) (x : Operand) : Option (Value × AH) :=
  match ρ x with
  | .string s => let (n, H) := H.new false (.siter s 0); some (.pointer (some ⟨n, 0, none⟩), H)
  | _ => none

def evNext (ρ : Operand → Value) (H : AH) (x : Operand) (isString : Bool) : Option (Value × AH) :=
  match ρ x with
  | .pointer (some ⟨r, 0, none⟩) => match H.get r, isString with
    | some (.siter s pos), true =>
      if Nat.blt pos s.data.toList.length then
        let (c, width) := Utf8.decode s pos
        match H.write r (.siter s (pos + width)) with
        | some H => some (.tuple #[.bool true, .int .i64 pos, .int .i32 c], H)
        | none => none
      else some (.tuple #[.bool false], H)
    | some (.miter none _ _ _), false => some (.tuple #[.bool false], H)
    | some (.miter (some m) since seen stepped), false => match H.get m with
      | some (.map [] _) => some (.tuple #[.bool false], H)
      | some (.map [e] clock) =>
        if Nat.beq e.born 0 && Nat.beq clock 1 && Nat.beq since 1 then
          match seen with
          | [] => match H.write r (.miter (some m) since [0] clock) with
            | some H => some (.tuple #[.bool true, e.key, e.val], H)
            | none => none
          | _ => if Nat.beq stepped 1 then some (.tuple #[.bool false], H) else none
        else none
      | _ => none
    | _, _ => none
  | _ => none

def evEntry (ρ : Operand → Value) (H : AH) (x : Operand) : Option (Value × AH) :=
  match ρ x with
  | .pointer (some ⟨r, 0, none⟩) => match H.get r with
    | some (.miter (some m) _ [0] stepped) => match H.get m with
      | some (.map [e] clock) => if Nat.beq clock stepped && Nat.beq e.born 0 then some (.tuple #[e.key, e.val], H) else none
      | _ => none
    | _ => none
  | _ => none

def evMkFunc (ρ : Operand → Value) (H : AH) (fn : Fn) (first : List Operand) (captured : List Operand) : Option (Value × AH) :=
  some (.func fn (first.map ρ).toArray (captured.map ρ).toArray, H)

def evMkIface (ρ : Operand → Value) (H : AH) (t : TypeId) (x : Operand) : Option (Value × AH) :=
  some (.iface t (ρ x), H)

def evMaxmin (ρ : Operand → Value) (H : AH) (isMax : Bool) (args : List Operand) : Option (Value × AH) :=
  match args.map ρ with | x :: rest => vH H (maxA isMax x rest) | [] => none

def evCall (call : CallA) (ρ : Operand → Value) (H : AH) (f : Operand) (args : List Operand) : Option (Value × AH) :=
  call (ρ f) (args.map ρ) H

def evSliceData (ρ : Operand → Value) (H : AH) (x : Operand) : Option (Value × AH) :=
  match ρ x with
  | .slice none _ _ => some (.pointer none, H)
  | .slice (some a) _ c => match a.spot with | none => if Nat.blt 0 c then some (.pointer (some a), H) else none | some _ => none
  | _ => none

def bytesOfL : List Value → Option (List UInt8)
  | [] => some []
  | .int .u8 (.ofNat n) :: l => match Nat.blt n 256, bytesOfL l with
    | true, some m => some (UInt8.ofNat n :: m)
    | _, _ => none
  | _ :: _ => none

def evUnsafeStr (ρ : Operand → Value) (H : AH) (e : TypeId) (p : Operand) (n : Operand) : Option (Value × AH) :=
  match ρ p, asNatA (ρ n) with
  | .pointer _, some 0 => some (bstr [], H)
  | .pointer (some a), some n =>
    match a.spot, H.get a.block, readCells H a n with
    | none, some (.cells c e' _ z), some bs =>
      if Nat.beq e e' && Nat.ble n roomA then
        match bytesOfL bs with
        | some l => match H.write a.block (.cells c e' true z) with | some H => some (bstr l, H) | none => none
        | none => none
      else none
    | _, _, _ => none
  | _, _ => none

def evBytesStr (ρ : Operand → Value) (H : AH) (x : Operand) : Option (Value × AH) :=
  match ρ x with
  | .slice none _ _ => some (bstr [], H)
  | .slice (some a) n _ => match a.spot with
    | some _ => some (bstr [], H)
    | none => match readCells H a n with
      | some bs => match bs.mapM (fun | .int .u8 b => some (UInt8.ofNat b.toNat) | _ => none) with | some l => some (bstr l, H) | none => none
      | none => none
  | _ => none

def evStrBytes (ρ : Operand → Value) (H : AH) (e : TypeId) (x : Operand) : Option (Value × AH) :=
  match ρ x with
  | .string s =>
    let l := s.data.toList
    let (m, H) := H.new true (.cells (l.map fun b => .int .u8 b.toNat) e true 1)
    some (.slice (some ⟨m, 0, none⟩) l.length l.length, H)
  | _ => none

def evPtrUp (ρ : Operand → Value) (H : AH) (x : Operand) : Option (Value × AH) :=
  match ρ x with
  | .pointer none => some (.pointer none, H)
  | .pointer (some a) => match readCells H a 1 with | some _ => some (.pointer (some a), H) | none => none
  | _ => none

def evPtrDown (P : Program) (ρ : Operand → Value) (H : AH) (t : TypeId) (x : Operand) : Option (Value × AH) :=
  match ρ x with
  | .pointer none => some (.pointer none, H)
  | .pointer (some a) => match H.get a.block, a.spot with
    | some (.cells c e _ _), none => if Nat.beq (a.block % 2) 0 && liesAt P P.depth e (c.length / P.cellsOf e) a.off t 1 then some (.pointer (some a), H) else none
    | _, _ => none
  | _ => none

def evFail : Option (Value × AH) :=
  none

def evPure (P : Program) (ρ : Operand → Value) (H : AH) (o : Oper) : Option (Value × AH) :=
  match o.op.operands.toList.all (fun x => scal 4 (ρ x)) with
  | true => match valOf P (execOp ρ o) with
    | some (.value x) => if scal 4 x then some (x, H) else none
    | _ => none
  | false => none

/-- An operation: what it does, as a function. -/
abbrev Run := CallA → (Operand → Value) → AH → Option (Value × AH)

inductive OKind where
  | calm | load | other
  | store (a : Operand)

structure AOp where
  kind : OKind
  run : Run

def R.move (x : Operand) : AOp := ⟨.calm, fun _ ρ H => evMove ρ H x⟩
def R.pick (c : Operand) (a : Operand) (b : Operand) : AOp := ⟨.calm, fun _ ρ H => evPick ρ H c a b⟩
def R.alloc (e : TypeId) (z : List Value) : AOp := ⟨.other, fun _ _ H => evAlloc H e z⟩
def R.box (e : TypeId) (x : Operand) : AOp := ⟨.other, fun _ ρ H => evBox ρ H e x⟩
def R.build (z : List Value) (parts : List (Nat × Nat × Operand)) : AOp := ⟨.calm, fun _ ρ H => evBuild ρ H z parts⟩
def R.bslice (e : TypeId) (z : List Value) (len : Nat) (parts : List (Nat × Nat × Operand)) : AOp := ⟨.other, fun _ ρ H => evBslice ρ H e z len parts⟩
def R.load1 (x : Operand) : AOp := ⟨.load, fun _ ρ H => evLoad1 ρ H x⟩
def R.loadN (n : Nat) (x : Operand) : AOp := ⟨.load, fun _ ρ H => evLoadN ρ H n x⟩
def R.store (n : Nat) (a : Operand) (x : Operand) : AOp := ⟨(.store a), fun _ ρ H => evStore ρ H n a x⟩
def R.nilCheck (x : Operand) : AOp := ⟨.calm, fun _ ρ H => evNilCheck ρ H x⟩
def R.bin (op : BinOp) (x : Operand) (y : Operand) : AOp := ⟨.calm, fun _ ρ H => evBin ρ H op x y⟩
def R.binB (op : BinOp) (x : Operand) (y : Operand) : AOp := ⟨.calm, fun _ ρ H => evBinB ρ H op x y⟩
def R.eqk (k : EqKind) (neg : Bool) (x : Operand) (y : Operand) : AOp := ⟨.calm, fun _ ρ H => evEqk ρ H k neg x y⟩
def R.un (op : UnOp) (x : Operand) : AOp := ⟨.calm, fun _ ρ H => evUn ρ H op x⟩
def R.convInt (k : IntKind) (x : Operand) : AOp := ⟨.calm, fun _ ρ H => evConvInt ρ H k x⟩
def R.convStr (x : Operand) : AOp := ⟨.calm, fun _ ρ H => evConvStr ρ H x⟩
def R.fieldAddr (off : Nat) (x : Operand) : AOp := ⟨.calm, fun _ ρ H => evFieldAddr ρ H off x⟩
def R.idxS (size : Nat) (x : Operand) (i : Operand) : AOp := ⟨.calm, fun _ ρ H => evIdxS ρ H size x i⟩
def R.idxA (n : Nat) (size : Nat) (x : Operand) (i : Operand) : AOp := ⟨.calm, fun _ ρ H => evIdxA ρ H n size x i⟩
def R.idxV (n : Nat) (size : Nat) (agg : Bool) (x : Operand) (i : Operand) : AOp := ⟨.calm, fun _ ρ H => evIdxV ρ H n size agg x i⟩
def R.idxStr (x : Operand) (i : Operand) : AOp := ⟨.calm, fun _ ρ H => evIdxStr ρ H x i⟩
def R.fieldV (off : Nat) (size : Nat) (agg : Bool) (x : Operand) : AOp := ⟨.calm, fun _ ρ H => evFieldV ρ H off size agg x⟩
def R.extract (x : Operand) (i : Nat) : AOp := ⟨.calm, fun _ ρ H => evExtract ρ H x i⟩
def R.lenS (x : Operand) : AOp := ⟨.calm, fun _ ρ H => evLenS ρ H x⟩
def R.lenStr (x : Operand) : AOp := ⟨.calm, fun _ ρ H => evLenStr ρ H x⟩
def R.lenM (x : Operand) : AOp := ⟨.other, fun _ ρ H => evLenM ρ H x⟩
def R.constLen (n : Nat) : AOp := ⟨.calm, fun _ _ H => evConstLen H n⟩
def R.cap (x : Operand) : AOp := ⟨.calm, fun _ ρ H => evCap ρ H x⟩
def R.sliceS (size : Nat) (x : Operand) (lo : Option Operand) (hi : Option Operand) (mx : Option Operand) : AOp := ⟨.load, fun _ ρ H => evSliceS ρ H size x lo hi mx⟩
def R.sliceA (n : Nat) (size : Nat) (x : Operand) (lo : Option Operand) (hi : Option Operand) (mx : Option Operand) : AOp := ⟨.calm, fun _ ρ H => evSliceA ρ H n size x lo hi mx⟩
def R.sliceStr (x : Operand) (lo : Option Operand) (hi : Option Operand) : AOp := ⟨.calm, fun _ ρ H => evSliceStr ρ H x lo hi⟩
def R.append (e : TypeId) (size : Nat) (bytes : Nat) (_zero : List Value) (s : Operand) (x : Operand) : AOp := ⟨.other, fun _ ρ H => evAppend ρ H e size bytes s x⟩
def R.appendZ (e : TypeId) (size : Nat) (bytes : Nat) (z : List Value) (s : Operand) (n : Operand) : AOp := ⟨.other, fun _ ρ H => evAppendZ ρ H e size bytes z s n⟩
def R.copy (size : Nat) (d : Operand) (s : Operand) : AOp := ⟨.other, fun _ ρ H => evCopy ρ H size d s⟩
def R.mkSlice (e : TypeId) (size : Nat) (bytes : Nat) (z : List Value) (l : Operand) (c : Operand) : AOp := ⟨.other, fun _ ρ H => evMkSlice ρ H e size bytes z l c⟩
def R.mkMap (r : Option Operand) : AOp := ⟨.other, fun _ ρ H => evMkMap ρ H r⟩
def R.mapSet (kt : TypeDesc) (m : Operand) (k : Operand) (x : Operand) : AOp := ⟨.other, fun _ ρ H => evMapSet ρ H kt m k x⟩
def R.lookup (kt : TypeDesc) (z : Value) (m : Operand) (k : Operand) (ok : Bool) : AOp := ⟨.other, fun _ ρ H => evLookup ρ H kt z m k ok⟩
def R.rangeMap (x : Operand) : AOp := ⟨.other, fun _ ρ H => evRangeMap ρ H x⟩
def R.rangeStr (x : Operand) : AOp := ⟨.other, fun _ ρ H => evRangeStr ρ H x⟩
def R.next (x : Operand) (isString : Bool) : AOp := ⟨.other, fun _ ρ H => evNext ρ H x isString⟩
def R.entry (x : Operand) : AOp := ⟨.other, fun _ ρ H => evEntry ρ H x⟩
def R.mkFunc (fn : Fn) (first : List Operand) (captured : List Operand) : AOp := ⟨.calm, fun _ ρ H => evMkFunc ρ H fn first captured⟩
def R.mkIface (t : TypeId) (x : Operand) : AOp := ⟨.calm, fun _ ρ H => evMkIface ρ H t x⟩
def R.maxmin (isMax : Bool) (args : List Operand) : AOp := ⟨.calm, fun _ ρ H => evMaxmin ρ H isMax args⟩
def R.call (f : Operand) (args : List Operand) : AOp := ⟨.other, fun call ρ H => evCall call ρ H f args⟩
def R.sliceData (x : Operand) : AOp := ⟨.calm, fun _ ρ H => evSliceData ρ H x⟩
def R.unsafeStr (e : TypeId) (p : Operand) (n : Operand) : AOp := ⟨.other, fun _ ρ H => evUnsafeStr ρ H e p n⟩
def R.bytesStr (x : Operand) : AOp := ⟨.other, fun _ ρ H => evBytesStr ρ H x⟩
def R.strBytes (e : TypeId) (x : Operand) : AOp := ⟨.other, fun _ ρ H => evStrBytes ρ H e x⟩
def R.ptrUp (x : Operand) : AOp := ⟨.other, fun _ ρ H => evPtrUp ρ H x⟩
def R.ptrDown (P : Program) (t : TypeId) (x : Operand) : AOp := ⟨.other, fun _ ρ H => evPtrDown P ρ H t x⟩
def R.fail : AOp := ⟨.calm, fun _ _ _ => evFail⟩
def R.pure (P : Program) (o : Oper) : AOp := ⟨.calm, fun _ ρ H => evPure P ρ H o⟩

/-! ## The code -/
structure AOper where
  dst : Option Tmp
  run : Run
  kind : OKind
  guard : Option (Tmp × Bool)
  preds : Nat
  solo : Bool
  uses : List Nat

inductive ACode where
  | skip
  | reg (ops : List AOper)
  | draw (ops : List AOper)
  | seq (a b : ACode)
  | cond (c : Operand) (a b : ACode)
  | block (id : Nat) (a : ACode)
  | loop (a : ACode)
  | rfun (f : Operand) (params : List Tmp) (assign body : ACode)
  | exit (id : Nat)
  | ret
  | stop

inductive AResult where
  | tmp (t : Tmp)
  | cell1 (t : Tmp)
  | cellN (t : Tmp) (n : Nat)

inductive AFunc where
  | code (ntmps : Nat) (results : List AResult) (body : ACode)

/-! ## Running -/
def wantedA (g : Option (Tmp × Bool)) (T : Tr Value) : Bool :=
  match g with
  | none => true
  | some (d, b) => match T.get d with | some (.bool c) => c == b | _ => false

def evOps (call : CallA) : List AOper → Tr Value → AH → Option (Tr Value × AH)
  | [], T, H => some (T, H)
  | o :: rest, T, H =>
    match wantedA o.guard T with
    | true => match o.run call (opv T) H with
      | some (v, H) => evOps call rest (setDst T o.dst v) H
      | none => none
    | false => evOps call rest (setDst T o.dst uv) H

def OKind.isCalm : OKind → Bool
  | .calm => true
  | _ => false

def OKind.isRead : OKind → Bool
  | .calm | .load => true
  | _ => false

def predsOf (ops : List AOper) (i : Nat) : Nat := match ops[i]? with | some o => o.preds | none => 0

/-- Are two operations of a region in no order? -/
def free2 (ops : List AOper) (i j : Nat) : Bool := !(Nat.beq i j) && !((predsOf ops i).testBit j) && !((predsOf ops j).testBit i)

/-- Is operation i, in the order of the text, before or behind each other one that is not calm? -/
def soloAt (ops : List AOper) (i : Nat) : Bool := ops.zipIdx.all fun (o, j) => o.kind.isCalm || !(free2 ops i j)

/-- The blocks that stores write which are in no order with other operations: a guess, by a first way through the calm operations and the loads. -/
def guessW : Nat → List AOper → Tr Value → AH → List (Nat × Nat)
  | _, [], _, _ => []
  | i, o :: rest, T, H =>
    let T' := match wantedA o.guard T, o.kind.isRead with
      | true, true => match o.run (fun _ _ _ => none) (opv T) H with
          | some (v, _) => setDst T o.dst v
          | none => T
      | _, _ => T
    match o.kind with
    | .store a => match o.solo, opv T a with
      | false, .pointer (some b) => (i, b.block) :: guessW (i + 1) rest T' H
      | _, _ => guessW (i + 1) rest T' H
    | _ => guessW (i + 1) rest T' H

/-- What is hidden from operation i: the new blocks of the ones before it in the text, and what the stores write, where they are in no order with it. -/
def hidOf (all : List AOper) (i : Nat) (ivs : List (Nat × Nat × Nat)) (ws : List (Nat × Nat)) : List (Nat × Nat) :=
  ((ivs.filter fun p => free2 all i p.1).map fun p => (p.2.1, p.2.2)) ++ ((ws.filter fun p => free2 all i p.1).map fun p => (p.2, p.2 + 1))

/-- A heap without blocks. -/
def emptyH (H : AH) : AH := ⟨.leaf, H.ctr, H.ctr, []⟩

/-- A heap of one block. -/
def oneH (H : AH) (b : Nat) (o : AObj) : AH := ⟨Tr.leaf.set b (some o), H.ctr, H.ro, []⟩

/-- One operation of a region that draws its order; 'ivs': the new blocks' intervals, with their operations' numbers. -/
def drawStep (call : CallA) (all : List AOper) (ws : List (Nat × Nat)) (i : Nat) (o : AOper) (ivs : List (Nat × Nat × Nat)) (T : Tr Value) (H : AH) : Option (List (Nat × Nat × Nat) × Tr Value × AH) :=
  match wantedA o.guard T with
  | false => some (ivs, setDst T o.dst uv, H)
  | true =>
    match o.kind.isCalm, o.solo with
    | true, _ => match o.run call (opv T) (emptyH H) with
      | some (v, G) => match Nat.beq G.ctr H.ctr with
        | true => some (ivs, setDst T o.dst v, H)
        | false => none
      | none => none
    | false, true => match o.run call (opv T) H with
      | some (v, G) => some (ivs, setDst T o.dst v, G)
      | none => none
    | false, false =>
      match o.kind with
      | .store a => match opv T a with
        | .pointer (some b) =>
          match ws.contains (i, b.block) && !hidden (hidOf all i ivs ws) b.block, H.get b.block with
          | true, some ob => match o.run call (opv T) (oneH H b.block ob) with
            | some (v, G) => match Nat.beq G.ctr H.ctr, G.get b.block with
              | true, some ob' => some (ivs, setDst T o.dst v, H.put b.block (some ob'))
              | _, _ => none
            | none => none
          | _, _ => none
        | _ => none
      | _ => match o.run call (opv T) { H with hid := hidOf all i ivs ws ++ H.hid, ro := H.ctr } with
        | some (v, G) => some ((i, H.ctr, G.ctr) :: ivs, setDst T o.dst v, { G with hid := H.hid, ro := H.ro })
        | none => none

/-- The operations of a region that draws its order, in the order of the text. -/
def evDraw (call : CallA) (all : List AOper) (ws : List (Nat × Nat)) : Nat → List AOper → List (Nat × Nat × Nat) → Tr Value → AH → Option (Tr Value × AH)
  | _, [], _, T, H => some (T, H)
  | i, o :: rest, ivs, T, H =>
    match drawStep call all ws i o ivs T H with
    | some (ivs, T, H) => evDraw call all ws (i + 1) rest ivs T H
    | none => none

def evDraw0 (call : CallA) (ops : List AOper) (T : Tr Value) (H : AH) : Option (Tr Value × AH) :=
  evDraw call ops ((guessW 0 ops T H).filter fun p => Nat.blt p.2 H.ctr) 0 ops [] T H

def setAll (T : Tr Value) : List Tmp → List Value → Option (Tr Value)
  | [], [] => some T
  | t :: ts, v :: vs => setAll (T.set t (some v)) ts vs
  | _, _ => none

def initT : Nat → List Value → Tr Value → Tr Value
  | _, [], T => T
  | i, v :: vs, T => initT (i + 1) vs (T.set i (some v))

def resA (T : Tr Value) (H : AH) : AResult → Option Value
  | .tmp t => some (opv T (.tmp t))
  | .cell1 t => match asAddrA (opv T (.tmp t)) with
    | some a => match readCells H a 1 with | some [c] => some c | _ => none
    | none => none
  | .cellN t n => match asAddrA (opv T (.tmp t)) with
    | some a => match readCells H a n with | some c => some (.agg c.toArray) | none => none
    | none => none

def resultsA (T : Tr Value) (H : AH) : List AResult → Option (List Value)
  | [] => some []
  | r :: rs => match resA T H r with
    | some v => match resultsA T H rs with | some vs => some (v :: vs) | none => none
    | none => none

def packA : List Value → Value
  | [v] => v
  | vs => .tuple vs.toArray

/-- A loop over a function that is under way: what it runs for each value. -/
structure LoopE where
  name : Nat
  tmps : Tr Value
  params : List Tmp
  assign : ACode
  body : ACode

def findLoop : List LoopE → Nat → Option LoopE
  | [], _ => none
  | e :: l, n => match Nat.beq e.name n with | true => some e | false => findLoop l n

abbrev EvA := List LoopE → Option Nat → ACode → Tr Value → AH → Option (Out × Tr Value × AH)
abbrev Sums := Nat → Option (List Value → AH → Option (Value × AH))

def indexB : List UInt8 → UInt8 → Nat → Int
  | [], _, _ => -1
  | b :: l, c, i => if b == c then (i : Int) else indexB l c (i + 1)

/-- Functions without a Go body, by what they give. -/
def sumSame (args : List Value) (H : AH) : Option (Value × AH) :=
  match args with
  | [x] => some (x, H)
  | _ => none

def sumIndexByte (args : List Value) (H : AH) : Option (Value × AH) :=
  match args with
  | [.string s, .int .u8 (.ofNat c)] => if Nat.blt c 256 then some (.int .i64 (indexB s.data.toList (UInt8.ofNat c) 0), H) else none
  | _ => none

def sumOverlaps (size : Nat) (args : List Value) (H : AH) : Option (Value × AH) :=
  match args with
  | [.slice (some a) la _, .slice (some b) lb _] =>
    if la = 0 ∨ lb = 0 ∨ size = 0 then some (.bool false, H) else
    match a.spot, b.spot with
    | none, none =>
      if a.block = b.block then some (.bool (decide (a.off < b.off + lb * size) && decide (b.off < a.off + la * size)), H) else
      match H.get a.block, H.get b.block with
      | some (.cells _ _ false _), some (.cells _ _ false _) => some (.bool false, H)
      | _, _ => none
    | _, _ => none
  | [.slice none _ _, .slice _ _ _] => some (.bool false, H)
  | [.slice (some _) _ _, .slice none _ _] => some (.bool false, H)
  | _ => none

def callFn (F : Tr AFunc) (ev : EvA) (env : List LoopE) (k : Nat) (args : List Value) (H : AH) : Option (Value × AH) :=
  match F.get k with
  | some (.code nt rs body) =>
    match Nat.ble args.length nt with
    | true => match ev env none body (initT 0 args .leaf) H with
      | some (.exit _, _, _) => none
      | some (_, T, H) => match resultsA T H rs with | some vs => some (packA vs, H) | none => none
      | none => none
    | false => none
  | none => none

/-- A round's end. -/
def endRoundA (l : Nat) (out : Out) (H : AH) : Option (Value × AH) :=
  match H.get l with
  | some (.loop _ _) => match out with
    | .normal => match H.write l (.loop .ready none) with | some H => some (.bool true, H) | none => none
    | o => match H.write l (.loop .done (some o)) with | some H => some (.bool false, H) | none => none
  | _ => none

def callYield (ev : EvA) (env : List LoopE) (l : Nat) (args : List Value) (H : AH) : Option (Value × AH) :=
  match findLoop env l, H.get l with
  | some e, some (.loop _ _) =>
    match setAll e.tmps e.params args with
    | some T => match ev env (some l) e.assign T H with
      | some (.normal, T, H) => match H.get l with
        | some (.loop .ready p) => match H.write l (.loop .busy p) with
          | some H => match ev env (some l) e.body T H with
            | some (out, _, H) => endRoundA l out H
            | none => none
          | none => none
        | _ => none
      | _ => none
    | none => none
  | _, _ => none

def callA (F : Tr AFunc) (S : Sums) (ev : EvA) (env : List LoopE) (f : Value) (args : List Value) (H : AH) : Option (Value × AH) :=
  match f with
  | .func (.func k) _ caps =>
    match S k with
    | some g => match g (args ++ caps.toList) H with
      | some r => some r
      | none => callFn F ev env k (args ++ caps.toList) H
    | none => callFn F ev env k (args ++ caps.toList) H
  | .func (.yield l) _ _ => callYield ev env l args H
  | _ => none

/-- The end of a loop over a function. -/
def endLoopA (l : Nat) (T : Tr Value) (H : AH) : Option (Out × Tr Value × AH) :=
  match H.get l with
  | some (.loop st pend) => match st with
    | .busy => none
    | _ => match H.write l (.loop .exhausted pend) with
      | some H => match pend with
        | none => some (.normal, T, H)
        | some o => some (o, T, H)
      | none => none
  | _ => none

def evRfun (F : Tr AFunc) (S : Sums) (ev : EvA) (env : List LoopE) (rnd : Option Nat) (f : Operand) (params : List Tmp) (assign body : ACode) (T : Tr Value) (H : AH) : Option (Out × Tr Value × AH) :=
  match (match rnd with | none => true | some l => match H.get l with | some (.loop _ _) => true | _ => false) with
  | false => none
  | true =>
    let (l, H) := H.new false (.loop .ready none)
    match callA F S ev (⟨l, T, params, assign, body⟩ :: env) (opv T f) [.func (.yield l) #[] #[]] H with
    | some (_, H) => endLoopA l T H
    | none => none

def seqA (k : Tr Value → AH → Option (Out × Tr Value × AH)) (x : Option (Out × Tr Value × AH)) : Option (Out × Tr Value × AH) :=
  match x with
  | some (.normal, T, H) => k T H
  | r => r

def condA (a b : Option (Out × Tr Value × AH)) (v : Value) : Option (Out × Tr Value × AH) :=
  match v with
  | .bool true => a
  | .bool false => b
  | _ => none

def outT (x : Option (Tr Value × AH)) : Option (Out × Tr Value × AH) := match x with | some (T, H) => some (.normal, T, H) | none => none

def exitA (id : Nat) (x : Option (Out × Tr Value × AH)) : Option (Out × Tr Value × AH) :=
  match x with
  | some (.exit i, T, H) => match Nat.beq i id with | true => some (.normal, T, H) | false => some (.exit i, T, H)
  | r => r

def evStep (F : Tr AFunc) (S : Sums) (ev : EvA) (env : List LoopE) (rnd : Option Nat) (c : ACode) (T : Tr Value) (H : AH) : Option (Out × Tr Value × AH) :=
  match c with
  | .skip => some (.normal, T, H)
  | .reg ops => outT (evOps (callA F S ev env) ops T H)
  | .draw ops => outT (evDraw0 (callA F S ev env) ops T H)
  | .seq a b => seqA (ev env rnd b) (ev env rnd a T H)
  | .cond x a b => condA (ev env rnd a T H) (ev env rnd b T H) (opv T x)
  | .block id a => exitA id (ev env rnd a T H)
  | .loop a => seqA (ev env rnd (.loop a)) (ev env rnd a T H)
  | .rfun f params assign body => evRfun F S ev env rnd f params assign body T H
  | .exit id => some (.exit id, T, H)
  | .ret => some (.ret, T, H)
  | .stop => none

def evC (F : Tr AFunc) (S : Sums) (n : Nat) : EvA :=
  Nat.rec (motive := fun _ => EvA) (fun _ _ _ _ _ => none) (fun _ ih => evStep F S ih) n

/-! ## Compiling -/
def mkTr {α : Type} : Nat → List α → Tr α → Tr α
  | _, [], t => t
  | i, x :: l, t => mkTr (i + 1) l (t.set i (some x))

def underX (Y : Tr TypeInfo) (t : TypeId) : Option TypeDesc :=
  match Y.get t with
  | some i => match i.desc with
    | .named _ u => match Y.get u with | some k => some k.desc | none => none
    | d => some d
  | none => none

def isAggP (Y : Tr TypeInfo) (t : TypeId) : Option Bool :=
  match underX Y t with
  | some (.struct _) | some (.array _ _) => some true
  | some _ => some false
  | none => none

def sizeP (Y : Tr TypeInfo) (t : TypeId) : Option Nat := (Y.get t).map (·.size)
def bytesP (Y : Tr TypeInfo) (t : TypeId) : Option Nat := (Y.get t).map (·.bytes)

def zeroP (Y : Tr TypeInfo) (t : TypeId) : Option Value :=
  match Y.get t with
  | some i => match i.zero with | some z => if scal 4 z then some z else none | none => none
  | none => none

def placesL (Y : Tr TypeInfo) : List Field → Option (List (Nat × Nat))
  | [] => some []
  | f :: fs => match Y.get f.type, placesL Y fs with
    | some i, some l => some ((f.offset, i.size) :: l)
    | _, _ => none

def placesP (Y : Tr TypeInfo) (t : TypeId) : Option (Nat → Option (Nat × Nat)) :=
  match underX Y t with
  | some (.struct fs) => match placesL Y fs.toList with | some l => some fun i => l[i]? | none => none
  | some (.array _ e) => match sizeP Y e with | some s => some fun i => some (i * s, s) | none => none
  | _ => none

def partsP (g : Nat → Option (Nat × Nat)) : List (Nat × Operand) → Option (List (Nat × Nat × Operand))
  | [] => some []
  | (i, x) :: rest => match g i, partsP g rest with
    | some (off, s), some l => if s = 0 then none else some ((off, s, x) :: l)
    | _, _ => none

def eqKindP (Y : Tr TypeInfo) (t : TypeId) : Option EqKind :=
  match underX Y t with
  | some (.pointer e) => match sizeP Y e with | some 0 => none | some _ => some .ptr | none => none
  | some (.slice _) => some .slice
  | some (.map _ _) => some .map
  | some (.func _ _ _) => some .func
  | some (.interface _) => some .iface
  | _ => none

def isConstO : Operand → Bool
  | .const _ => true
  | _ => false

def plainDesc : TypeDesc → Bool
  | .bool | .int _ | .string => true
  | _ => false

def compOp0 (P : Program) (Y : Tr TypeInfo) (o : Oper) : Option AOp :=
  match o.op with
  | .move x | .assign x => some (R.move x)
  | .pick c a b => some (R.pick c a b)
  | .alloc e => match zeroP Y e with | some z => some (R.alloc e z.cells.toList) | none => none
  | .box e x => some (R.box e x)
  | .build t parts => match zeroP Y t, (placesP Y t).bind (fun g => partsP g parts.toList) with
    | some z, some l => some (R.build z.cells.toList l)
    | _, _ => none
  | .buildSlice t len parts => match underX Y t with
    | some (.slice e) => match sizeP Y e, zeroP Y e with
      | some s, some z => match partsP (fun i => some (i * s, s)) parts.toList with
        | some l => if s = z.cells.toList.length && Nat.ble (len * s) 4096 then some (R.bslice e z.cells.toList len l) else none
        | none => none
      | _, _ => none
    | _ => none
  | .load t a => match isAggP Y t, sizeP Y t with
    | some true, some n => some (R.loadN n a)
    | some false, some _ => some (R.load1 a)
    | _, _ => none
  | .store t a x => match sizeP Y t with | some n => some (R.store n a x) | none => none
  | .nilCheck x => some (R.nilCheck x)
  | .binOp op t x y _ =>
    match op with
    | .eql | .neq => match underX Y t with
      | some .bool => some (R.binB op x y)
      | some (.int _) | some .string => some (R.bin op x y)
      | some _ => match eqKindP Y t with
        | some .iface => if isConstO x || isConstO y then some (R.eqk .iface (op matches .neq) x y) else none
        | some k => some (R.eqk k (op matches .neq) x y)
        | none => none
      | none => none
    | _ => some (R.bin op x y)
  | .unOp op _ x => match op with | .not | .neg => some (R.un op x) | _ => none
  | .convert src dst x => match underX Y src, underX Y dst with
    | some (.int _), some (.int k) => some (R.convInt k x)
    | some .string, some .string => some (R.convStr x)
    | some (.slice _), some .string => none
    | some .string, some (.slice e) => match underX Y e, sizeP Y e with | some (.int .u8), some 1 => some (R.strBytes e x) | _, _ => none
    | some (.pointer t), some .unsafePointer => match sizeP Y t with | some 0 => none | some _ => some (R.ptrUp x) | none => none
    | some .unsafePointer, some (.pointer t) => match sizeP Y t with | some 0 => none | some _ => some (R.ptrDown P t x) | none => none
    | _, _ => none
  | .makeInterface t x => match underX Y t with | some (.interface _) => none | some _ => some (R.mkIface t x) | none => none
  | .makeFunc fn first captured => match fn, first.toList with | .func f, [] => some (R.mkFunc (.func f) [] captured.toList) | _, _ => none
  | .makeMap t r => match underX Y t with | some (.map _ _) => some (R.mkMap r) | _ => none
  | .makeSlice t l c => match underX Y t with
    | some (.slice e) => match sizeP Y e, bytesP Y e, zeroP Y e with
      | some s, some b, some z => if s = z.cells.toList.length then some (R.mkSlice e s b z.cells.toList l c) else none
      | _, _, _ => none
    | _ => none
  | .slice t x lo hi mx => match underX Y t with
    | some .string => if mx.isNone then some (R.sliceStr x lo hi) else none
    | some (.slice e) => match sizeP Y e with | some s => some (R.sliceS s x lo hi mx) | none => none
    | _ => none
  | .fieldAddr s x f => match underX Y s with
    | some (.struct fs) => match fs[f]? with
      | some g => match sizeP Y g.type with | some 0 => none | some _ => some (R.fieldAddr g.offset x) | none => none
      | none => none
    | _ => none
  | .field s x f => match underX Y s with
    | some (.struct fs) => match fs[f]? with
      | some g => match sizeP Y g.type, isAggP Y g.type with | some n, some b => some (R.fieldV g.offset n b x) | _, _ => none
      | none => none
    | _ => none
  | .indexAddr t x ix => match underX Y t with
    | some (.slice e) => match sizeP Y e with | some s => some (R.idxS s x ix) | none => none
    | some (.array n e) => match sizeP Y e with | some s => some (R.idxA n s x ix) | none => none
    | _ => none
  | .index t x ix => match underX Y t with
    | some (.array n e) => match sizeP Y e, isAggP Y e with | some s, some b => some (R.idxV n s b x ix) | _, _ => none
    | some .string => some (R.idxStr x ix)
    | _ => none
  | .lookup t x ix ok => match underX Y t with
    | some (.map k e) => match underX Y k, zeroP Y e with
      | some d, some z => if plainDesc d then some (R.lookup d z x ix ok) else none
      | _, _ => none
    | _ => none
  | .mapUpdate t m k v | .insert t m k v => match underX Y t with
    | some (.map kt _) => match underX Y kt with
      | some d => if plainDesc d then some (R.mapSet d m k v) else none
      | none => none
    | _ => none
  | .extract t i => some (R.extract t i)
  | .call c => match c.callee with
    | .value f => some (R.call f c.args.toList)
    | .invoke _ _ => none
    | .builtin b => match b, c.argTypes.toList, c.args.toList with
      | .len, t :: _, [x] => match underX Y t with
        | some .string => some (R.lenStr x)
        | some (.slice _) => some (R.lenS x)
        | some (.map _ _) => some (R.lenM x)
        | some (.array n _) => some (R.constLen n)
        | some (.pointer arr) => match underX Y arr with | some (.array n _) => some (R.constLen n) | _ => none
        | _ => none
      | .cap, t :: _, [x] => match underX Y t with | some (.slice _) => some (R.cap x) | _ => none
      | .append, t :: u :: _, [s, x] => match underX Y t, underX Y u with
        | some (.slice e), some d => match sizeP Y e, bytesP Y e, zeroP Y e with
          | some sz, some b, some z => if sz = z.cells.toList.length then (match d with
            | .int _ => none
            | .string => if sz = 1 then some (R.append e sz b z.cells.toList s x) else none
            | _ => some (R.append e sz b z.cells.toList s x)) else none
          | _, _, _ => none
        | _, _ => none
      | .max, _, l => some (R.maxmin true l)
      | .min, _, l => some (R.maxmin false l)
      | .unsafeSliceData, _, [x] => some (R.sliceData x)
      | .unsafeString, pt :: _, [p, n] => match underX Y pt with
        | some (.pointer e) => match sizeP Y e with | some 1 => some (R.unsafeStr e p n) | _ => none
        | _ => none
      | _, _, _ => none
  | _ => none

def compOp (P : Program) (Y : Tr TypeInfo) (o : Oper) : Option AOp :=
  match o.op with
  | .defer _ => none
  | _ => match o.op.operands.toList.all (okOpd P.globals.size), compOp0 P Y o with
    | true, some a => some a
    | true, none => some R.fail
    | false, _ => none

def tmpsOf : List Operand → List Nat
  | [] => []
  | .tmp t :: l => t :: tmpsOf l
  | _ :: l => tmpsOf l

def compOper (P : Program) (Y : Tr TypeInfo) (nt : Nat) (ops : Array Oper) (bf : Array Nat) (i : Nat) (o : Oper) : Option AOper :=
  match compOp P Y o, (match o.dst with | none => true | some d => Nat.blt d nt) with
  | some op, true => match o.guard with
    | none => some ⟨o.dst, op.run, op.kind, none, bf.getD i 0, true, tmpsOf o.op.operands.toList⟩
    | some (j, b) => match (ops[j]?).bind (·.dst) with
      | some d => if Nat.blt d nt then some ⟨o.dst, op.run, op.kind, some (d, b), bf.getD i 0, true, d :: tmpsOf o.op.operands.toList⟩ else none
      | none => none
  | _, _ => none

def compOpers (P : Program) (Y : Tr TypeInfo) (nt : Nat) (ops : Array Oper) (bf : Array Nat) : Nat → List Oper → Option (List AOper)
  | _, [] => some []
  | i, o :: rest => match compOper P Y nt ops bf i o, compOpers P Y nt ops bf (i + 1) rest with
    | some a, some l => some (a :: l)
    | _, _ => none

def setSolo (all : List AOper) : Nat → List AOper → List AOper
  | _, [] => []
  | i, o :: l => { o with solo := soloAt all i } :: setSolo all (i + 1) l

/-- May the operations of a region be run in any of its orders? Each temporary that one names is written by the ones that are in an order with it; and what an operation comes behind stands ahead of it in the text. -/
def drawOk (l : List AOper) : Bool :=
  l.zipIdx.all fun (a, i) => Nat.blt a.preds (2 ^ i) && l.zipIdx.all fun (b, j) =>
    match b.dst with
    | none => true
    | some d => Nat.beq i j || !(a.uses.contains d || a.dst == some d) || !(free2 l i j)

def comp (P : Program) (Y : Tr TypeInfo) (nt : Nat) : Code → Option ACode
  | .skip => some .skip
  | .region _ ops d => match compOpers P Y nt ops (if d then Region.before ops else #[]) 0 ops.toList with
    | some l => match d with
      | false => some (.reg l)
      | true => match drawOk l with | true => some (.draw (setSolo l 0 l)) | false => none
    | none => none
  | .seq a b => match comp P Y nt a, comp P Y nt b with | some a, some b => some (.seq a b) | _, _ => none
  | .cond c a b => match okOpd P.globals.size c, comp P Y nt a, comp P Y nt b with | true, some a, some b => some (.cond c a b) | _, _, _ => none
  | .block id a => match comp P Y nt a with | some a => some (.block id a) | none => none
  | .loop a => match comp P Y nt a with | some a => some (.loop a) | none => none
  | .rangeFunc f ps a b => match okOpd P.globals.size f, ps.toList.all (fun d => Nat.blt d nt), comp P Y nt a, comp P Y nt b with
    | true, true, some a, some b => some (.rfun f ps.toList a b)
    | _, _, _, _ => none
  | .exit id => some (.exit id)
  | .ret => some .ret
  | .refuse _ => some .stop
  | _ => none

def compRes (Y : Tr TypeInfo) : List ResultVar → Option (List AResult)
  | [] => some []
  | r :: rs => match (match r with
      | .tmp t => some (AResult.tmp t)
      | .cell a t => match isAggP Y t, sizeP Y t with
        | some true, some n => some (.cellN a n)
        | some false, some _ => some (.cell1 a)
        | _, _ => none), compRes Y rs with
    | some a, some l => some (a :: l)
    | _, _ => none

def compF (P : Program) (Y : Tr TypeInfo) (fn : Func) : Option AFunc :=
  match fn.body with
  | some c => match comp P Y fn.ntmps c, compRes Y fn.results.toList with
      | some b, some r => some (.code fn.ntmps r b)
      | _, _ => none
  | none => none

/-- A function's code, unless it is compiled to nothing. -/
def mkF (P : Program) (Y : Tr TypeInfo) : Nat → List Func → Tr AFunc → Tr AFunc
  | _, [], t => t
  | i, fn :: l, t => mkF P Y (i + 1) l (t.set i (compF P Y fn))

/-! ## A summary: the sorted keys of a map whose keys are numbers in text -/
def decNat : List UInt8 → Nat → Nat
  | [], n => n
  | b :: l, n => decNat l (10 * n + (b.toNat - 48))

def decInt : List UInt8 → Int
  | [] => 0
  | b :: l => if b = 45 then -(decNat l 0 : Int) else (decNat (b :: l) 0 : Int)

def strOf : Value → List UInt8
  | .string s => s.data.toList
  | _ => []

def insSort (v : Value) : List Value → List Value
  | [] => [v]
  | w :: l => if decInt (strOf v) ≤ decInt (strOf w) then v :: w :: l else w :: insSort v l

def sortedKeys : List MapEntry → List Value
  | [] => []
  | e :: es => insSort e.key (sortedKeys es)

def sumKeys (elem : TypeId) (args : List Value) (H : AH) : Option (Value × AH) :=
  match args with
  | [.map (some r)] => match H.get r with
    | some (.map [] _) => some (.slice none 0 0, H)
    | some (.map es _) =>
      let c := sortedKeys es
      let (m, H) := H.new true (.cells c elem false 1)
      some (.slice (some ⟨m, 0, none⟩) c.length c.length, H)
    | _ => none
  | _ => none

end Go.Proofs.YtlbmihpmcgiinaaGreatDoor.Own
end

/- The engine, part 2: how an abstract heap and a world of the model belong together, and that reading, writing and making keep it so. -/
section
namespace Go.Proofs.YtlbmihpmcgiinaaGreatDoor.Own
open Go

/-! ## The map from numbers -/
section tr
variable {α : Type}

@[simp] theorem Tr.getF_zero (t : Tr α) (n : Nat) : Tr.getF 0 t n = none := rfl
@[simp] theorem Tr.getF_leaf (f n : Nat) : Tr.getF (α := α) f .leaf n = none := by cases f <;> rfl
@[simp] theorem Tr.getF_node_zero (f : Nat) (l r : Tr α) (v : Option α) : Tr.getF (f + 1) (.node l v r) 0 = v := rfl
theorem Tr.getF_node_succ (f : Nat) (l r : Tr α) (v : Option α) (m : Nat) :
    Tr.getF (f + 1) (.node l v r) (m + 1) = if m % 2 = 0 then Tr.getF f l (m / 2) else Tr.getF f r (m / 2) := by
  show (Bool.casesOn (Nat.beq (m % 2) 0) (Tr.getF f r (m / 2)) (Tr.getF f l (m / 2)) : Option α) = _
  by_cases h : m % 2 = 0
  · rw [if_pos h, h]; rfl
  · rw [if_neg h]
    have : Nat.beq (m % 2) 0 = false := by rw [← Bool.not_eq_true, Nat.beq_eq]; exact h
    rw [this]

theorem Tr.getF_fuel : ∀ (f : Nat) (t : Tr α) (n : Nat), n < f → ∀ g, n < g → Tr.getF f t n = Tr.getF g t n := by
  intro f
  induction f with
  | zero => intro t n h; omega
  | succ f ih =>
    intro t n h g hg
    obtain ⟨g, rfl⟩ : ∃ k, g = k + 1 := ⟨g - 1, by omega⟩
    cases t with
    | leaf => simp
    | node l v r =>
      cases n with
      | zero => rfl
      | succ m =>
        rw [Tr.getF_node_succ, Tr.getF_node_succ]
        rw [ih l (m / 2) (by omega) g (by omega), ih r (m / 2) (by omega) g (by omega)]

theorem Tr.setF_zero (x : Option α) (t : Tr α) (n : Nat) : Tr.setF x 0 t n = t := rfl
theorem Tr.setF_leaf_zero (x : Option α) (f : Nat) : Tr.setF x (f + 1) .leaf 0 = .node .leaf x .leaf := rfl
theorem Tr.setF_node_zero (x : Option α) (f : Nat) (l r : Tr α) (v : Option α) : Tr.setF x (f + 1) (.node l v r) 0 = .node l x r := rfl
theorem Tr.setF_leaf_succ (x : Option α) (f m : Nat) :
    Tr.setF x (f + 1) .leaf (m + 1) = if m % 2 = 0 then .node (Tr.setF x f .leaf (m / 2)) none .leaf else .node .leaf none (Tr.setF x f .leaf (m / 2)) := by
  show (Bool.casesOn (Nat.beq (m % 2) 0) (Tr.node .leaf none (Tr.setF x f .leaf (m / 2))) (Tr.node (Tr.setF x f .leaf (m / 2)) none .leaf) : Tr α) = _
  by_cases h : m % 2 = 0
  · rw [if_pos h, h]; rfl
  · rw [if_neg h]
    have : Nat.beq (m % 2) 0 = false := by rw [← Bool.not_eq_true, Nat.beq_eq]; exact h
    rw [this]
theorem Tr.setF_node_succ (x : Option α) (f : Nat) (l r : Tr α) (v : Option α) (m : Nat) :
    Tr.setF x (f + 1) (.node l v r) (m + 1) = if m % 2 = 0 then .node (Tr.setF x f l (m / 2)) v r else .node l v (Tr.setF x f r (m / 2)) := by
  show (Bool.casesOn (Nat.beq (m % 2) 0) (Tr.node l v (Tr.setF x f r (m / 2))) (Tr.node (Tr.setF x f l (m / 2)) v r) : Tr α) = _
  by_cases h : m % 2 = 0
  · rw [if_pos h, h]; rfl
  · rw [if_neg h]
    have : Nat.beq (m % 2) 0 = false := by rw [← Bool.not_eq_true, Nat.beq_eq]; exact h
    rw [this]

theorem Tr.getF_setF (x : Option α) : ∀ (f : Nat) (t : Tr α) (n : Nat), n < f → ∀ g m, m < g →
    Tr.getF g (Tr.setF x f t n) m = if m = n then x else Tr.getF g t m := by
  intro f
  induction f with
  | zero => intro t n h; omega
  | succ f ih =>
    intro t n h g m hg
    obtain ⟨g, rfl⟩ : ∃ k, g = k + 1 := ⟨g - 1, by omega⟩
    cases n with
    | zero =>
      cases t with
      | leaf =>
        rw [Tr.setF_leaf_zero]
        cases m with
        | zero => simp
        | succ m => rw [Tr.getF_node_succ]; simp
      | node l v r =>
        rw [Tr.setF_node_zero]
        cases m with
        | zero => simp
        | succ m => rw [Tr.getF_node_succ, Tr.getF_node_succ]; simp
    | succ n =>
      cases t with
      | leaf =>
        rw [Tr.setF_leaf_succ]
        cases m with
        | zero => split <;> simp
        | succ m =>
          by_cases hn : n % 2 = 0
          · rw [if_pos hn, Tr.getF_node_succ]
            by_cases hm : m % 2 = 0
            · rw [if_pos hm, ih .leaf (n / 2) (by omega) g (m / 2) (by omega)]
              by_cases e : m = n
              · subst e; simp
              · rw [if_neg (by omega), if_neg (by omega)]; simp
            · rw [if_neg hm, if_neg (by omega)]; simp
          · rw [if_neg hn, Tr.getF_node_succ]
            by_cases hm : m % 2 = 0
            · rw [if_pos hm, if_neg (by omega)]; simp
            · rw [if_neg hm, ih .leaf (n / 2) (by omega) g (m / 2) (by omega)]
              by_cases e : m = n
              · subst e; simp
              · rw [if_neg (by omega), if_neg (by omega)]; simp
      | node l v r =>
        rw [Tr.setF_node_succ]
        cases m with
        | zero => split <;> simp
        | succ m =>
          by_cases hn : n % 2 = 0
          · rw [if_pos hn, Tr.getF_node_succ, Tr.getF_node_succ]
            by_cases hm : m % 2 = 0
            · rw [if_pos hm, if_pos hm, ih l (n / 2) (by omega) g (m / 2) (by omega)]
              by_cases e : m = n
              · subst e; simp
              · rw [if_neg (by omega), if_neg (by omega)]
            · rw [if_neg hm, if_neg hm, if_neg (by omega)]
          · rw [if_neg hn, Tr.getF_node_succ, Tr.getF_node_succ]
            by_cases hm : m % 2 = 0
            · rw [if_pos hm, if_pos hm, if_neg (by omega)]
            · rw [if_neg hm, if_neg hm, ih r (n / 2) (by omega) g (m / 2) (by omega)]
              by_cases e : m = n
              · subst e; simp
              · rw [if_neg (by omega), if_neg (by omega)]

theorem Tr.get_set (t : Tr α) (n : Nat) (x : Option α) (m : Nat) : (t.set n x).get m = if m = n then x else t.get m := by
  unfold Tr.get Tr.set
  exact Tr.getF_setF x (n + 1) t n (by omega) (m + 1) m (by omega)
@[simp] theorem Tr.get_leaf (n : Nat) : (Tr.leaf : Tr α).get n = none := by simp [Tr.get]
theorem Tr.get_set_same (t : Tr α) (n : Nat) (x : Option α) : (t.set n x).get n = x := by rw [Tr.get_set, if_pos rfl]
theorem Tr.get_set_ne (t : Tr α) (n : Nat) (x : Option α) (m : Nat) (h : m ≠ n) : (t.set n x).get m = t.get m := by rw [Tr.get_set, if_neg h]

theorem mkTr_get : ∀ (l : List α) (i : Nat) (t : Tr α) (n : Nat), (mkTr i l t).get n = if n < i then t.get n else match l[n - i]? with | some x => some x | none => t.get n := by
  intro l
  induction l with
  | nil => intro i t n; simp [mkTr]
  | cons x l ih =>
    intro i t n
    rw [mkTr, ih]
    by_cases h : n < i
    · rw [if_pos (by omega), if_pos h, Tr.get_set_ne _ _ _ _ (by omega)]
    · by_cases e : n = i
      · subst e; rw [if_pos (by omega), if_neg h]; simp [Tr.get_set_same]
      · rw [if_neg (by omega), if_neg h]
        obtain ⟨k, hk⟩ : ∃ k, n - i = k + 1 := ⟨n - i - 1, by omega⟩
        have : n - (i + 1) = k := by omega
        rw [hk, this]
        simp only [List.getElem?_cons_succ]
        rw [Tr.get_set_ne _ _ _ _ e]
end tr

/-! ## Renaming -/
/-- What a loop over a function keeps. -/
structure LoopS where
  fn : FuncId
  tmps : Array Value
  params : Array Tmp
  assign : Code
  body : Code
  defers : Nat

/-- Where an abstract block lies. -/
structure BI where
  blk : Nat
  shift : Nat
  esz : Nat
  tot : Nat
  loop : Option LoopS

abbrev Ren := Nat → Option BI

def Ren.le (β β' : Ren) : Prop := ∀ n I, β n = some I → β' n = some I

theorem Ren.le_refl (β : Ren) : β.le β := fun _ _ h => h
theorem Ren.le_trans {a b c : Ren} (h : a.le b) (k : b.le c) : a.le c := fun n I e => k n I (h n I e)

inductive VR (β : Ren) : Value → Value → Prop
  | bool (b : Bool) : VR β (.bool b) (.bool b)
  | int (k : IntKind) (n : Int) : VR β (.int k n) (.int k n)
  | float (k : FloatKind) (b : Nat) : VR β (.float k b) (.float k b)
  | complex (k : FloatKind) (a b : Nat) : VR β (.complex k a b) (.complex k a b)
  | string (s : ByteArray) : VR β (.string s) (.string s)
  | nilFunc : VR β .nilFunc .nilFunc
  | nilIface : VR β .nilIface .nilIface
  | pnil : VR β (.pointer none) (.pointer none)
  | mnil : VR β (.map none) (.map none)
  | snil : VR β (.slice none 0 0) (.slice none 0 0)
  | ptr {n o : Nat} {I : BI} : β n = some I → VR β (.pointer (some ⟨n, o, none⟩)) (.pointer (some ⟨I.blk, o + I.shift, none⟩))
  | slice {n o l c c' : Nat} {I : BI} : β n = some I → l ≤ c → c ≤ c' → (n % 2 = 0 → c = c') → (n % 2 = 1 → o + I.shift + c' * I.esz ≤ I.tot) →
      VR β (.slice (some ⟨n, o, none⟩) l c) (.slice (some ⟨I.blk, o + I.shift, none⟩) l c')
  | nowhere {a : Addr} {c' : Nat} : VR β nowhere (.slice (some a) 0 c')
  | map {n : Nat} {I : BI} : β n = some I → VR β (.map (some n)) (.map (some I.blk))
  | func {f : FuncId} {caps caps' : Array Value} : caps.size = caps'.size → (∀ i, i < caps.size → VR β (caps.getD i uv) (caps'.getD i uv)) →
      VR β (.func (.func f) #[] caps) (.func (.func f) #[] caps')
  | yield {n : Nat} {I : BI} : β n = some I → VR β (.func (.yield n) #[] #[]) (.func (.yield I.blk) #[] #[])
  | iface {t : TypeId} {v w : Value} : VR β v w → VR β (.iface t v) (.iface t w)
  | agg {cs ds : Array Value} : cs.size = ds.size → (∀ i, i < cs.size → VR β (cs.getD i uv) (ds.getD i uv)) → VR β (.agg cs) (.agg ds)
  | tuple {cs ds : Array Value} : cs.size = ds.size → (∀ i, i < cs.size → VR β (cs.getD i uv) (ds.getD i uv)) → VR β (.tuple cs) (.tuple ds)

theorem VR.mono {β β' : Ren} (h : β.le β') {v w : Value} (r : VR β v w) : VR β' v w := by
  induction r with
  | bool b => exact .bool b
  | int k n => exact .int k n
  | float k b => exact .float k b
  | complex k a b => exact .complex k a b
  | string s => exact .string s
  | nilFunc => exact .nilFunc
  | nilIface => exact .nilIface
  | pnil => exact .pnil
  | mnil => exact .mnil
  | snil => exact .snil
  | ptr e => exact .ptr (h _ _ e)
  | slice e a b c d => exact .slice (h _ _ e) a b c d
  | nowhere => exact .nowhere
  | map e => exact .map (h _ _ e)
  | func e _ ih => exact .func e ih
  | yield e => exact .yield (h _ _ e)
  | iface _ ih => exact .iface ih
  | agg e _ ih => exact .agg e ih
  | tuple e _ ih => exact .tuple e ih

/-- Values in a row. -/
def VRs (β : Ren) (l l' : List Value) : Prop := l.length = l'.length ∧ ∀ i, i < l.length → VR β (l.getD i uv) (l'.getD i uv)

theorem VRs.mono {β β' : Ren} (h : β.le β') {l l' : List Value} (r : VRs β l l') : VRs β' l l' := ⟨r.1, fun i hi => (r.2 i hi).mono h⟩
theorem VRs.nil {β : Ren} : VRs β [] [] := ⟨rfl, fun i h => by simp at h⟩
theorem VRs.cons {β : Ren} {x y : Value} {l l' : List Value} (h : VR β x y) (r : VRs β l l') : VRs β (x :: l) (y :: l') := by
  refine ⟨by simp [r.1], fun i hi => ?_⟩
  cases i with
  | zero => simpa using h
  | succ i => simpa using r.2 i (by simpa using hi)
theorem VRs.head {β : Ren} {x : Value} {l l' : List Value} (r : VRs β (x :: l) l') : ∃ y m, l' = y :: m ∧ VR β x y ∧ VRs β l m := by
  cases l' with
  | nil => simp [VRs] at r
  | cons y m =>
    refine ⟨y, m, rfl, by simpa using r.2 0 (by simp), by simpa using r.1, fun i hi => ?_⟩
    simpa using r.2 (i + 1) (by simpa using hi)
theorem VRs.nil_inv {β : Ren} {l' : List Value} (r : VRs β [] l') : l' = [] := by
  cases l' with
  | nil => rfl
  | cons y m => simp [VRs] at r
theorem VRs.append {β : Ren} : ∀ {l l' m m' : List Value}, VRs β l l' → VRs β m m' → VRs β (l ++ m) (l' ++ m') := by
  intro l
  induction l with
  | nil => intro l' m m' h k; rw [h.nil_inv]; simpa using k
  | cons x l ih =>
    intro l' m m' h k
    obtain ⟨y, n, rfl, hx, hl⟩ := h.head
    exact .cons hx (ih hl k)
theorem VRs.of_arr {β : Ren} {cs ds : Array Value} (h : cs.size = ds.size) (k : ∀ i, i < cs.size → VR β (cs.getD i uv) (ds.getD i uv)) : VRs β cs.toList ds.toList := by
  refine ⟨by simpa using h, fun i hi => ?_⟩
  have := k i (by simpa using hi)
  simpa [Array.getD_eq_getD_getElem?, List.getD_eq_getElem?_getD] using this
theorem VRs.to_arr {β : Ren} {l l' : List Value} (h : VRs β l l') : l.toArray.size = l'.toArray.size ∧ ∀ i, i < l.toArray.size → VR β (l.toArray.getD i uv) (l'.toArray.getD i uv) := by
  refine ⟨by simpa using h.1, fun i hi => ?_⟩
  have := h.2 i (by simpa using hi)
  simpa [Array.getD_eq_getD_getElem?, List.getD_eq_getElem?_getD] using this
theorem VRs.get {β : Ren} {l l' : List Value} (h : VRs β l l') {i : Nat} {v : Value} (e : l[i]? = some v) : ∃ w, l'[i]? = some w ∧ VR β v w := by
  have hi : i < l.length := by
    by_cases k : i < l.length
    · exact k
    · rw [List.getElem?_eq_none (by omega)] at e; cases e
  have hi' : i < l'.length := h.1 ▸ hi
  refine ⟨l'[i], List.getElem?_eq_getElem hi', ?_⟩
  have := h.2 i hi
  rw [List.getD_eq_getElem?_getD, List.getD_eq_getElem?_getD, e, List.getElem?_eq_getElem hi'] at this
  simpa using this

theorem VR.uv {β : Ren} : VR β uv undef := .tuple rfl (fun i h => by simp at h)

theorem arr_eq_of {cs ds : Array Value} (h : cs.size = ds.size) (k : ∀ i, i < cs.size → cs.getD i uv = ds.getD i uv) : cs = ds := by
  apply Array.ext h
  intro i h1 h2
  have := k i h1
  simpa [Array.getD_eq_getD_getElem?, h1, h2] using this

/-- A value without addresses is its own renaming. -/
theorem VR.eq_of_scal {β : Ren} {v w : Value} (r : VR β v w) : ∀ n, scal n v = true → v = w := by
  induction r with
  | bool | int | float | complex | string | nilFunc | nilIface | pnil | mnil | snil => intro n _; rfl
  | ptr e => intro n h; cases n <;> simp [scal] at h
  | slice e a b c d => intro n h; cases n <;> simp [scal] at h
  | nowhere => intro n h; cases n <;> simp [scal, Go.Proofs.YtlbmihpmcgiinaaGreatDoor.Own.nowhere] at h
  | map e => intro n h; cases n <;> simp [scal] at h
  | @func f caps caps' e k ih =>
    intro n h
    have hc : caps = #[] := by
      cases caps with
      | mk l => cases l with
        | nil => rfl
        | cons x l => cases n <;> simp [scal] at h
    subst hc
    have : caps' = #[] := Array.eq_empty_of_size_eq_zero (by simpa using e.symm)
    rw [this]
  | yield e => intro n h; cases n <;> simp [scal] at h
  | iface r ih =>
    intro n h
    cases n with
    | zero => simp [scal] at h
    | succ n => rw [ih n (by simpa [scal] using h)]
  | @agg cs ds e k ih =>
    intro n h
    cases n with
    | zero => simp [scal] at h
    | succ n =>
      have h' := List.all_eq_true.mp (show cs.toList.all (scal n) = true by simpa only [scal] using h)
      rw [arr_eq_of e (fun i hi => ih i hi n (h' _ (by simp [Array.getD_eq_getD_getElem?, hi])))]
  | @tuple cs ds e k ih =>
    intro n h
    cases n with
    | zero => simp [scal] at h
    | succ n =>
      have h' := List.all_eq_true.mp (show cs.toList.all (scal n) = true by simpa only [scal] using h)
      rw [arr_eq_of e (fun i hi => ih i hi n (h' _ (by simp [Array.getD_eq_getD_getElem?, hi])))]

theorem VR.refl_of_scal {β : Ren} : ∀ (n : Nat) (v : Value), scal n v = true → VR β v v := by
  intro n
  induction n with
  | zero =>
    intro v h
    match v, h with
    | .bool _, _ => exact .bool _
    | .int _ _, _ => exact .int _ _
    | .float _ _, _ => exact .float _ _
    | .complex _ _ _, _ => exact .complex _ _ _
    | .string _, _ => exact .string _
    | .nilFunc, _ => exact .nilFunc
    | .nilIface, _ => exact .nilIface
    | .pointer none, _ => exact .pnil
    | .map none, _ => exact .mnil
    | .slice none 0 0, _ => exact .snil
    | .func (.func _) ⟨[]⟩ ⟨[]⟩, _ => exact .func rfl (fun i hi => by simp at hi)
  | succ n ih =>
    intro v h
    match v, h with
    | .bool _, _ => exact .bool _
    | .int _ _, _ => exact .int _ _
    | .float _ _, _ => exact .float _ _
    | .complex _ _ _, _ => exact .complex _ _ _
    | .string _, _ => exact .string _
    | .nilFunc, _ => exact .nilFunc
    | .nilIface, _ => exact .nilIface
    | .pointer none, _ => exact .pnil
    | .map none, _ => exact .mnil
    | .slice none 0 0, _ => exact .snil
    | .func (.func _) ⟨[]⟩ ⟨[]⟩, _ => exact .func rfl (fun i hi => by simp at hi)
    | .iface t v, h => exact .iface (ih v (by simpa [scal] using h))
    | .agg cs, h =>
      have h' := List.all_eq_true.mp (show cs.toList.all (scal n) = true by simpa only [scal] using h)
      exact .agg rfl (fun i hi => ih _ (h' _ (by simp [Array.getD_eq_getD_getElem?, hi])))
    | .tuple cs, h =>
      have h' := List.all_eq_true.mp (show cs.toList.all (scal n) = true by simpa only [scal] using h)
      exact .tuple rfl (fun i hi => ih _ (h' _ (by simp [Array.getD_eq_getD_getElem?, hi])))

/-! ## Objects -/
def outCode : Out → Option Code
  | .normal => none
  | .exit id => some (.exit id)
  | .ret => some .ret

def pendCode : Option Out → Option Code
  | none => none
  | some o => outCode o

structure ERel (β : Ren) (e e' : MapEntry) : Prop where
  key : VR β e.key e'.key
  val : VR β e.val e'.val
  born : e.born = e'.born

inductive OR (β : Ren) (n : Nat) (I : BI) : AObj → Obj → Prop
  | cells {c : List Value} {e : TypeId} {f : Bool} {z : Nat} {c' : Array Value} {fz : Nat × Nat} :
      (∀ (i : Nat) (v : Value), c[i]? = some v → ∃ w, c'[i + I.shift]? = some w ∧ VR β v w) →
      (n % 2 = 1 → z = I.esz ∧ I.tot = c'.size) → (f = false → fz.2 ≤ fz.1) → (n % 2 = 0 → I.shift = 0 ∧ c'.size = c.length) →
      OR β n I (.cells c e f z) (.cells c' e fz)
  | map {es : List MapEntry} {es' : Array MapEntry} {clock : Nat} : es.length = es'.size →
      (∀ (i : Nat) (e : MapEntry), es[i]? = some e → ∃ e', es'[i]? = some e' ∧ ERel β e e') → OR β n I (.map es clock) (.map es' clock)
  | miter0 {s : Nat} {seen : List Nat} {st : Nat} : OR β n I (.miter none s seen st) (.mapIter none s seen.toArray st)
  | miter {m : Nat} {J : BI} {s : Nat} {seen : List Nat} {st : Nat} : β m = some J → OR β n I (.miter (some m) s seen st) (.mapIter (some J.blk) s seen.toArray st)
  | siter {s : ByteArray} {pos : Nat} : OR β n I (.siter s pos) (.stringIter s pos)
  | loop {st : LoopState} {p : Option Out} {L : LoopS} : I.loop = some L →
      OR β n I (.loop st p) (.loop { state := st, pending := pendCode p, fn := L.fn, tmps := L.tmps, params := L.params, assign := L.assign, body := L.body, defers := L.defers })

theorem ERel.mono {β β' : Ren} (h : β.le β') {e e' : MapEntry} (r : ERel β e e') : ERel β' e e' := ⟨r.key.mono h, r.val.mono h, r.born⟩

theorem OR.mono {β β' : Ren} (h : β.le β') {n : Nat} {I : BI} {o : AObj} {o' : Obj} (r : OR β n I o o') : OR β' n I o o' := by
  cases r with
  | cells a b c d => exact .cells (fun i v e => let ⟨w, h1, h2⟩ := a i v e; ⟨w, h1, h2.mono h⟩) b c d
  | map a b => exact .map a (fun i e k => let ⟨e', h1, h2⟩ := b i e k; ⟨e', h1, h2.mono h⟩)
  | miter0 => exact .miter0
  | miter e => exact .miter (h _ _ e)
  | siter => exact .siter
  | loop e => exact .loop e

/-- The abstract heap, as a function, is what the world holds. -/
structure Rep (β : Ren) (g : Nat → Option AObj) (w : World) : Prop where
  obj : ∀ n o, g n = some o → ∃ I o', β n = some I ∧ w.heap[I.blk]? = some o' ∧ OR β n I o o'
  inj : ∀ n m I J, (g n).isSome = true → (g m).isSome = true → β n = some I → β m = some J → I.blk = J.blk → n = m
  bnd : ∀ n I, β n = some I → I.blk < w.heap.size

/-- What a piece of a run does to worlds and renamings: 'g', 'ro', 'c': the abstract heap, its bound of writing and its count ahead of it; 'c'': the count behind it. -/
structure Ev (β : Ren) (g : Nat → Option AObj) (ro c : Nat) (w : World) (β' : Ren) (c' : Nat) (w' : World) : Prop where
  le : β.le β'
  fresh : ∀ n, β' n ≠ β n → c ≤ n ∧ n < c'
  img : ∀ n I, β' n = some I → β n = none → w.heap.size ≤ I.blk ∨ ∃ m J, ro ≤ m ∧ (g m).isSome = true ∧ β m = some J ∧ J.blk = I.blk
  keep : ∀ B, B < w.heap.size → (∀ m J, ro ≤ m → (g m).isSome = true → β m = some J → J.blk ≠ B) → w'.heap[B]? = w.heap[B]?
  size : w.heap.size ≤ w'.heap.size
  tape : w'.tape = w.tape
  os : w'.os = w.os
  output : w'.output = w.output

/-- A heap in order. -/
structure WF (H : AH) : Prop where
  live : ∀ n, (H.get n).isSome = true → n < H.ctr
  ro : H.ro ≤ H.ctr
  hid : ∀ n, hidden H.hid n = true → n < H.ctr
  even : H.ctr % 2 = 0

/-- What a piece of a run does to abstract heaps. -/
structure HX (H H' : AH) : Prop where
  ctr : H.ctr ≤ H'.ctr
  ro : H'.ro = H.ro
  hid : H'.hid = H.hid
  old : ∀ n, n < H.ctr → (H'.get n).isSome = true → (H.get n).isSome = true
  low : ∀ n, n < H.ro → H'.get n = H.get n
  hidd : ∀ n, hidden H.hid n = true → H'.tr.get n = H.tr.get n
  wf : WF H'

theorem HX.refl {H : AH} (h : WF H) : HX H H := ⟨Nat.le_refl _, rfl, rfl, fun _ _ h => h, fun _ _ => rfl, fun _ _ => rfl, h⟩
theorem HX.trans {a b c : AH} (h : HX a b) (k : HX b c) : HX a c :=
  ⟨Nat.le_trans h.ctr k.ctr, k.ro.trans h.ro, k.hid.trans h.hid, fun n hn hs => h.old n hn (k.old n (Nat.lt_of_lt_of_le hn h.ctr) hs),
   fun n hn => (k.low n (by rw [h.ro]; exact hn)).trans (h.low n hn), fun n hn => (k.hidd n (by rw [h.hid]; exact hn)).trans (h.hidd n hn), k.wf⟩

def Free (β : Ren) (c c' : Nat) : Prop := ∀ n, c ≤ n → n < c' → β n = none

theorem Ev.refl (β : Ren) (g : Nat → Option AObj) (ro c : Nat) (w : World) : Ev β g ro c w β c w :=
  ⟨Ren.le_refl _, fun n h => absurd rfl h, fun n I h k => (by rw [h] at k; cases k), fun _ _ _ => rfl, Nat.le_refl _, rfl, rfl, rfl⟩

theorem Free.left {β : Ren} {c c1 c2 : Nat} (h : Free β c c2) (k : c1 ≤ c2) : Free β c c1 := fun n a b => h n a (by omega)
theorem Free.right {β : Ren} {g : Nat → Option AObj} {ro c c1 c2 : Nat} {w w' : World} {β' : Ren} (h : Free β c c2) (e : Ev β g ro c w β' c1 w') (k : c ≤ c1) : Free β' c1 c2 := by
  intro n a b
  by_cases hn : β' n = β n
  · rw [hn]; exact h n (by omega) b
  · have := (e.fresh n hn).2; omega

theorem Ev.trans {β β1 β2 : Ren} {H H1 : AH} {c2 : Nat} {w w1 w2 : World} (h : Ev β H.get H.ro H.ctr w β1 H1.ctr w1) (x : HX H H1)
    (k : Ev β1 H1.get H1.ro H1.ctr w1 β2 c2 w2) (f : Free β H.ctr c2) (hc : H1.ctr ≤ c2) : Ev β H.get H.ro H.ctr w β2 c2 w2 := by
  have key : ∀ m J, H1.ro ≤ m → (H1.get m).isSome = true → β1 m = some J → J.blk < w.heap.size → ∃ m J', H.ro ≤ m ∧ (H.get m).isSome = true ∧ β m = some J' ∧ J'.blk = J.blk := by
    intro m J hr hs hb hlt
    cases hbm : β m with
    | some J' =>
      have : J' = J := by have := h.le _ _ hbm; rw [hb] at this; cases this; rfl
      subst this
      have hm : m < H.ctr := by
        by_cases hm : m < H.ctr
        · exact hm
        · have hl := x.wf.live m hs
          have := f m (by omega) (by omega)
          rw [hbm] at this; cases this
      exact ⟨m, J', by rw [← x.ro]; exact hr, x.old m hm hs, hbm, rfl⟩
    | none =>
      rcases h.img m J hb hbm with h1 | ⟨n, K, a, b, c, d⟩
      · omega
      · exact ⟨n, K, a, b, c, d⟩
  refine ⟨Ren.le_trans h.le k.le, ?_, ?_, ?_, Nat.le_trans h.size k.size, k.tape.trans h.tape, k.os.trans h.os, k.output.trans h.output⟩
  · intro n hn
    by_cases h1 : β1 n = β n
    · have := k.fresh n (by rw [h1]; exact hn); have := x.ctr; omega
    · have := h.fresh n h1; omega
  · intro n I h2 h0
    cases h1 : β1 n with
    | some I1 =>
      have e1 := k.le _ _ h1; rw [h2] at e1; cases e1
      exact h.img n _ h1 h0
    | none =>
      rcases k.img n I h2 h1 with h3 | ⟨m, J, a, b, c, d⟩
      · left; exact Nat.le_trans h.size h3
      · by_cases hlt : J.blk < w.heap.size
        · obtain ⟨m', J', a', b', c', d'⟩ := key m J a b c hlt
          right; exact ⟨m', J', a', b', c', d'.trans d⟩
        · left; omega
  · intro B hB hn
    rw [k.keep B (Nat.lt_of_lt_of_le hB h.size) ?_]
    · exact h.keep B hB hn
    · intro m J a b c e
      obtain ⟨m', J', a', b', c', d'⟩ := key m J a b c (by omega)
      exact hn m' J' a' b' c' (d'.trans e)

end Go.Proofs.YtlbmihpmcgiinaaGreatDoor.Own
end

/- The engine, part 3: reading, writing and making, on both sides. -/
section
namespace Go.Proofs.YtlbmihpmcgiinaaGreatDoor.Own
open Go

theorem AH.get_eq (H : AH) (n : Nat) : H.get n = if hidden H.hid n = true then none else H.tr.get n := by
  unfold AH.get
  split
  · rename_i h; rw [h]; simp [hidden]
  · split <;> simp_all

theorem AH.get_put (H : AH) (n : Nat) (o : Option AObj) (m : Nat) : (H.put n o).get m = if hidden H.hid m = true then none else if m = n then o else H.tr.get m := by
  rw [AH.get_eq]; simp only [AH.put, Tr.get_set]

theorem AH.get_some {H : AH} {n : Nat} {o : AObj} (h : H.get n = some o) : hidden H.hid n = false ∧ H.tr.get n = some o := by
  rw [AH.get_eq] at h
  split at h
  · cases h
  · rename_i k; exact ⟨by simpa using k, h⟩

def Ren.ext (β : Ren) (n : Nat) (I : BI) : Ren := fun m => if m = n then some I else β m

theorem Ren.ext_le {β : Ren} {n : Nat} {I : BI} (h : β n = none) : β.le (β.ext n I) := by
  intro m J e
  unfold Ren.ext
  split
  · rename_i k; subst k; rw [h] at e; cases e
  · exact e
theorem Ren.ext_same (β : Ren) (n : Nat) (I : BI) : β.ext n I n = some I := by simp [Ren.ext]
theorem Ren.ext_ne (β : Ren) (n : Nat) (I : BI) (m : Nat) (h : m ≠ n) : β.ext n I m = β m := by simp [Ren.ext, h]

/-- A world that is another one with one block more (and some draws). -/
structure Pushed (w : World) (o : Obj) (w' : World) : Prop where
  heap : w'.heap = w.heap.push o
  tape : w'.tape = w.tape
  os : w'.os = w.os
  output : w'.output = w.output

/-- A world that is another one with one block rewritten (and some draws). -/
structure Turned (w : World) (B : Nat) (o : Obj) (w' : World) : Prop where
  size : w'.heap.size = w.heap.size
  at_ : w'.heap[B]? = some o
  rest : ∀ k, k ≠ B → w'.heap[k]? = w.heap[k]?
  tape : w'.tape = w.tape
  os : w'.os = w.os
  output : w'.output = w.output

/-- A world that differs in draws alone. -/
structure Drawn (w w' : World) : Prop where
  heap : w'.heap = w.heap
  tape : w'.tape = w.tape
  os : w'.os = w.os
  output : w'.output = w.output

theorem Drawn.refl (w : World) : Drawn w w := ⟨rfl, rfl, rfl, rfl⟩

theorem Rep.drawn {β : Ren} {g : Nat → Option AObj} {w w' : World} (h : Rep β g w) (d : Drawn w w') : Rep β g w' :=
  ⟨fun n o e => by rw [d.heap]; exact h.obj n o e, h.inj, fun n I e => by rw [d.heap]; exact h.bnd n I e⟩
theorem Ev.drawn {β : Ren} {g : Nat → Option AObj} {ro c : Nat} {w w' : World} (d : Drawn w w') : Ev β g ro c w β c w' :=
  ⟨Ren.le_refl _, fun n h => absurd rfl h, fun n I h k => (by rw [h] at k; cases k), fun _ _ _ => by rw [d.heap], by rw [d.heap]; exact Nat.le_refl _, d.tape, d.os, d.output⟩

theorem Rep.lt {β : Ren} {g : Nat → Option AObj} {w : World} (h : Rep β g w) {n : Nat} {o : AObj} {I : BI} (e : g n = some o) (b : β n = some I) : I.blk < w.heap.size := by
  obtain ⟨J, o', hb, hw, _⟩ := h.obj n o e
  rw [b] at hb; cases hb
  by_cases k : I.blk < w.heap.size
  · exact k
  · rw [Array.getElem?_eq_none (by omega)] at hw; cases hw

/-- Making a block. -/
theorem new_rep {H : AH} (wf : WF H) (odd : Bool) (o : AObj) {n : Nat} {H' : AH} (e : H.new odd o = (n, H')) :
    HX H H' ∧ H'.ctr = H.ctr + 2 ∧ H'.get n = some o ∧ H.ctr ≤ n ∧ n < H'.ctr ∧ (n % 2 = if odd then 1 else 0) ∧ (∀ m, m ≠ n → H'.get m = H.get m) ∧
    ∀ (β : Ren) (w w' : World) (o' : Obj) (I : BI), Rep β H.get w → Free β H.ctr H'.ctr → Pushed w o' w' → I.blk = w.heap.size → OR (β.ext n I) n I o o' →
      Rep (β.ext n I) H'.get w' ∧ Ev β H.get H.ro H.ctr w (β.ext n I) H'.ctr w' := by
  have hn : n = if odd then H.ctr + 1 else H.ctr := by simp only [AH.new] at e; cases e; rfl
  have hH : H' = { H with tr := H.tr.set n (some o), ctr := H.ctr + 2 } := by simp only [AH.new] at e; cases e; rfl
  have hlo : H.ctr ≤ n := by rw [hn]; split <;> omega
  have hhi : n < H.ctr + 2 := by rw [hn]; split <;> omega
  have hev := wf.even
  have hpar : n % 2 = if odd then 1 else 0 := by rw [hn]; split <;> omega
  have hhid : hidden H.hid n = false := by
    cases k : hidden H.hid n with
    | false => rfl
    | true => have := wf.hid n k; omega
  have hget : ∀ m, H'.get m = if m = n then some o else H.get m := by
    intro m
    rw [AH.get_eq, AH.get_eq, hH]
    simp only [Tr.get_set]
    by_cases k : m = n
    · subst k; simp [hhid]
    · simp [k]
  have hctr : H'.ctr = H.ctr + 2 := by rw [hH]
  have hwf : WF H' := by
    refine ⟨?_, by rw [hH]; have := wf.ro; show H.ro ≤ H.ctr + 2; omega, by rw [hH]; intro m hm; have := wf.hid m hm; show m < H.ctr + 2; omega, by rw [hctr]; omega⟩
    intro m hm
    rw [hget] at hm
    split at hm
    · omega
    · have := wf.live m hm; omega
  refine ⟨⟨by omega, by rw [hH], by rw [hH], ?_, ?_, ?_, hwf⟩, hctr, by rw [hget, if_pos rfl], hlo, by omega, hpar, fun m hm => by rw [hget, if_neg hm], ?_⟩
  · intro m hm hs
    rw [hget, if_neg (by omega)] at hs; exact hs
  · intro m hm
    have := wf.ro
    rw [hget, if_neg (by omega)]
  · intro m hm
    have := wf.hid m hm
    rw [hH]; exact Tr.get_set_ne _ _ _ _ (by omega)
  · intro β w w' o' I hr hf hp hI hor
    have hbn : β n = none := hf n hlo (by omega)
    have hle := Ren.ext_le (I := I) hbn
    have hbnd : ∀ m J, β.ext n I m = some J → J.blk < w'.heap.size := by
      intro m J hm
      rw [hp.heap, Array.size_push]
      by_cases k : m = n
      · rw [k, Ren.ext_same] at hm; cases hm; omega
      · rw [Ren.ext_ne _ _ _ _ k] at hm; have := hr.bnd m J hm; omega
    refine ⟨⟨?_, ?_, hbnd⟩, ⟨hle, ?_, ?_, ?_, ?_, hp.tape, hp.os, hp.output⟩⟩
    · intro m x hx
      rw [hget] at hx
      by_cases k : m = n
      · subst k
        rw [if_pos rfl] at hx; cases hx
        exact ⟨I, o', Ren.ext_same _ _ _, by rw [hp.heap, hI]; simp, hor⟩
      · rw [if_neg k] at hx
        obtain ⟨J, x', h1, h2, h3⟩ := hr.obj m x hx
        refine ⟨J, x', by rw [Ren.ext_ne _ _ _ _ k]; exact h1, ?_, h3.mono hle⟩
        have := hr.lt hx h1
        rw [hp.heap, Array.getElem?_push, if_neg (by omega)]; exact h2
    · intro a b J K ha hb h1 h2 hJK
      rw [hget] at ha hb
      by_cases ka : a = n
      · by_cases kb : b = n
        · rw [ka, kb]
        · rw [if_neg kb] at hb
          rw [ka, Ren.ext_same] at h1; cases h1
          rw [Ren.ext_ne _ _ _ _ kb] at h2
          obtain ⟨x, hx⟩ := Option.isSome_iff_exists.mp hb
          have := hr.lt hx h2
          omega
      · rw [if_neg ka] at ha
        rw [Ren.ext_ne _ _ _ _ ka] at h1
        obtain ⟨x, hx⟩ := Option.isSome_iff_exists.mp ha
        have := hr.lt hx h1
        by_cases kb : b = n
        · rw [kb, Ren.ext_same] at h2; cases h2; omega
        · rw [if_neg kb] at hb
          rw [Ren.ext_ne _ _ _ _ kb] at h2
          exact hr.inj a b J K ha hb h1 h2 hJK
    · intro m hm
      by_cases k : m = n
      · omega
      · rw [Ren.ext_ne _ _ _ _ k] at hm; exact absurd rfl hm
    · intro m J hm h0
      by_cases k : m = n
      · rw [k, Ren.ext_same] at hm; cases hm; left; omega
      · rw [Ren.ext_ne _ _ _ _ k, h0] at hm; cases hm
    · intro B hB _
      rw [hp.heap, Array.getElem?_push, if_neg (by omega)]
    · rw [hp.heap]; simp

/-- Rewriting a block. -/
theorem write_rep {H H' : AH} (wf : WF H) {n : Nat} {o o0 : AObj} (h0 : H.get n = some o0) (e : H.write n o = some H') :
    HX H H' ∧ H'.ctr = H.ctr ∧ H.ro ≤ n ∧ (∀ m, H'.get m = if m = n then some o else H.get m) ∧
    ∀ (β : Ren) (w w' : World) (o' : Obj) (I : BI), Rep β H.get w → β n = some I → Turned w I.blk o' w' → OR β n I o o' →
      Rep β H'.get w' ∧ Ev β H.get H.ro H.ctr w β H'.ctr w' := by
  unfold AH.write at e
  split at e
  · rename_i hro
    cases e
    have hro : H.ro ≤ n := by simpa using hro
    obtain ⟨hhid, htr⟩ := AH.get_some h0
    have hget : ∀ m, (H.put n (some o)).get m = if m = n then some o else H.get m := by
      intro m
      rw [AH.get_put, AH.get_eq]
      by_cases k : m = n
      · subst k; simp [hhid]
      · simp [k]
    have hlive : n < H.ctr := wf.live n (by rw [h0]; rfl)
    have hwf : WF (H.put n (some o)) := by
      refine ⟨?_, wf.ro, wf.hid, wf.even⟩
      intro m hm
      rw [hget] at hm
      split at hm
      · rename_i k; subst k; exact hlive
      · exact wf.live m hm
    refine ⟨⟨Nat.le_refl _, rfl, rfl, ?_, ?_, ?_, hwf⟩, rfl, hro, hget, ?_⟩
    · intro m _ hs
      rw [hget] at hs
      split at hs
      · rename_i k; subst k; rw [h0]; rfl
      · exact hs
    · intro m hm; rw [hget, if_neg (by omega)]
    · intro m hm
      exact Tr.get_set_ne _ _ _ _ (by intro k; subst k; rw [hhid] at hm; cases hm)
    · intro β w w' o' I hr hb ht hor
      refine ⟨⟨?_, ?_, fun m J hm => by rw [ht.size]; exact hr.bnd m J hm⟩, ⟨Ren.le_refl _, fun m hm => absurd rfl hm, fun m J h1 h2 => (by rw [h1] at h2; cases h2), ?_, by rw [ht.size]; exact Nat.le_refl _, ht.tape, ht.os, ht.output⟩⟩
      · intro m x hx
        rw [hget] at hx
        by_cases k : m = n
        · subst k
          rw [if_pos rfl] at hx; cases hx
          exact ⟨I, o', hb, ht.at_, hor⟩
        · rw [if_neg k] at hx
          obtain ⟨J, x', h1, h2, h3⟩ := hr.obj m x hx
          refine ⟨J, x', h1, ?_, h3⟩
          rw [ht.rest _ (fun hJ => k (hr.inj m n J I (by rw [hx]; rfl) (by rw [h0]; rfl) h1 hb hJ))]; exact h2
      · intro a b J K ha hb' h1 h2 hJK
        have live : ∀ m, ((H.put n (some o)).get m).isSome = true → (H.get m).isSome = true := by
          intro m hm
          rw [hget] at hm
          split at hm
          · rename_i k; subst k; rw [h0]; rfl
          · exact hm
        exact hr.inj a b J K (live a ha) (live b hb') h1 h2 hJK
      · intro B hB hk
        exact ht.rest B (fun hB' => hk n I hro (by rw [h0]; rfl) hb hB'.symm)
  · cases e

/-- Making a block in the place of one that is given up: the new one may lie where the old one lay. -/
theorem renew_rep {H : AH} (wf : WF H) {k : Nat} {o0 : AObj} (h0 : H.get k = some o0) (hk : H.ro ≤ k) (o : AObj) {n : Nat} {H' : AH} (e : (H.put k none).new true o = (n, H')) :
    HX H H' ∧ H'.ctr = H.ctr + 2 ∧ H'.get n = some o ∧ H.ctr ≤ n ∧ n < H'.ctr ∧ n % 2 = 1 ∧
    ∀ (β : Ren) (w w' : World) (o' : Obj) (I : BI), Rep β H.get w → Free β H.ctr H'.ctr →
      (Pushed w o' w' ∧ I.blk = w.heap.size ∨ ∃ J, β k = some J ∧ I.blk = J.blk ∧ Turned w J.blk o' w') → OR (β.ext n I) n I o o' →
      Rep (β.ext n I) H'.get w' ∧ Ev β H.get H.ro H.ctr w (β.ext n I) H'.ctr w' := by
  have hn : n = H.ctr + 1 := by simp only [AH.new, AH.put] at e; cases e; rfl
  have hH : H' = { H with tr := (H.tr.set k none).set n (some o), ctr := H.ctr + 2 } := by simp only [AH.new, AH.put] at e; cases e; rfl
  have hev := wf.even
  have hkl : k < H.ctr := wf.live k (by rw [h0]; rfl)
  obtain ⟨hkh, hkt⟩ := AH.get_some h0
  have hhid : hidden H.hid n = false := by
    cases x : hidden H.hid n with
    | false => rfl
    | true => have := wf.hid n x; omega
  have hget : ∀ m, H'.get m = if m = n then some o else if m = k then none else H.get m := by
    intro m
    rw [AH.get_eq, AH.get_eq, hH]
    simp only [Tr.get_set]
    by_cases x : m = n
    · subst x; simp [hhid]
    · by_cases y : m = k
      · subst y; simp [hkh, x]
      · simp [x, y]
  have hctr : H'.ctr = H.ctr + 2 := by rw [hH]
  have hwf : WF H' := by
    refine ⟨?_, by rw [hH]; have := wf.ro; show H.ro ≤ H.ctr + 2; omega, by rw [hH]; intro m hm; have := wf.hid m hm; show m < H.ctr + 2; omega, by rw [hctr]; omega⟩
    intro m hm
    rw [hget] at hm
    split at hm
    · omega
    · split at hm
      · simp at hm
      · have := wf.live m hm; omega
  refine ⟨⟨by omega, by rw [hH], by rw [hH], ?_, ?_, ?_, hwf⟩, hctr, by rw [hget, if_pos rfl], by omega, by omega, by omega, ?_⟩
  · intro m hm hs
    rw [hget, if_neg (by omega)] at hs
    split at hs
    · simp at hs
    · exact hs
  · intro m hm
    have := wf.ro
    rw [hget, if_neg (by omega), if_neg (by omega)]
  · intro m hm
    have := wf.hid m hm
    rw [hH]
    show ((H.tr.set k none).set n (some o)).get m = _
    rw [Tr.get_set_ne _ _ _ _ (by omega), Tr.get_set_ne _ _ _ _ (by intro x; subst x; rw [hkh] at hm; cases hm)]
  · intro β w w' o' I hr hf hp hor
    have hbn : β n = none := hf n (by omega) (by omega)
    have hle := Ren.ext_le (I := I) hbn
    obtain ⟨J0, x0, hJ0, hw0, _⟩ := hr.obj k o0 h0
    have hJlt := hr.lt h0 hJ0
    -- what both cases share
    have hsz : w.heap.size ≤ w'.heap.size := by
      rcases hp with ⟨hp, _⟩ | ⟨J, _, _, ht⟩
      · rw [hp.heap]; simp
      · rw [ht.size]; exact Nat.le_refl _
    have hat : w'.heap[I.blk]? = some o' := by
      rcases hp with ⟨hp, hI⟩ | ⟨J, _, hI, ht⟩
      · rw [hp.heap, hI]; simp
      · rw [hI]; exact ht.at_
    have hrest : ∀ B, B < w.heap.size → B ≠ J0.blk → w'.heap[B]? = w.heap[B]? := by
      intro B hB hne
      rcases hp with ⟨hp, hI⟩ | ⟨J, hJ, hI, ht⟩
      · rw [hp.heap, Array.getElem?_push, if_neg (by omega)]
      · rw [hJ0] at hJ; cases hJ
        exact ht.rest B hne
    have hIb : I.blk = w.heap.size ∨ I.blk = J0.blk := by
      rcases hp with ⟨_, hI⟩ | ⟨J, hJ, hI, _⟩
      · exact .inl hI
      · rw [hJ0] at hJ; cases hJ; exact .inr hI
    have hother : ∀ m x J, m ≠ k → H.get m = some x → β m = some J → J.blk ≠ J0.blk := by
      intro m x J hm hx hJ hb
      exact hm (hr.inj m k J J0 (by rw [hx]; rfl) (by rw [h0]; rfl) hJ hJ0 hb)
    have hbnd : ∀ m J, β.ext n I m = some J → J.blk < w'.heap.size := by
      intro m J hm
      by_cases y : m = n
      · rw [y, Ren.ext_same] at hm; cases hm
        rcases hp with ⟨hp, hI⟩ | ⟨J, hJ, hI, ht⟩
        · rw [hp.heap, Array.size_push]; omega
        · rw [hJ0] at hJ; cases hJ; rw [ht.size]; omega
      · rw [Ren.ext_ne _ _ _ _ y] at hm; have := hr.bnd m J hm; omega
    refine ⟨⟨?_, ?_, hbnd⟩, ⟨hle, ?_, ?_, ?_, hsz, ?_, ?_, ?_⟩⟩
    · intro m x hx
      rw [hget] at hx
      by_cases y : m = n
      · subst y
        rw [if_pos rfl] at hx; cases hx
        exact ⟨I, o', Ren.ext_same _ _ _, hat, hor⟩
      · rw [if_neg y] at hx
        by_cases z : m = k
        · rw [if_pos z] at hx; cases hx
        · rw [if_neg z] at hx
          obtain ⟨J, x', h1, h2, h3⟩ := hr.obj m x hx
          refine ⟨J, x', by rw [Ren.ext_ne _ _ _ _ y]; exact h1, ?_, h3.mono hle⟩
          rw [hrest _ (hr.lt hx h1) (hother m x J z hx h1)]; exact h2
    · intro a b J K ha hb h1 h2 hJK
      have live : ∀ m L, m ≠ n → (H'.get m).isSome = true → β m = some L → (H.get m).isSome = true ∧ L.blk < w.heap.size ∧ L.blk ≠ J0.blk := by
        intro m L hm hs hL
        rw [hget, if_neg hm] at hs
        by_cases z : m = k
        · rw [if_pos z] at hs; cases hs
        · rw [if_neg z] at hs
          obtain ⟨x, hx⟩ := Option.isSome_iff_exists.mp hs
          exact ⟨hs, hr.lt hx hL, hother m x L z hx hL⟩
      by_cases ka : a = n
      · by_cases kb : b = n
        · rw [ka, kb]
        · rw [ka, Ren.ext_same] at h1; cases h1
          rw [Ren.ext_ne _ _ _ _ kb] at h2
          obtain ⟨_, h4, h5⟩ := live b K kb hb h2
          omega
      · rw [Ren.ext_ne _ _ _ _ ka] at h1
        obtain ⟨h3, h4, h5⟩ := live a J ka ha h1
        by_cases kb : b = n
        · rw [kb, Ren.ext_same] at h2; cases h2; omega
        · rw [Ren.ext_ne _ _ _ _ kb] at h2
          obtain ⟨h6, _, _⟩ := live b K kb hb h2
          exact hr.inj a b J K h3 h6 h1 h2 hJK
    · intro m hm
      by_cases y : m = n
      · omega
      · rw [Ren.ext_ne _ _ _ _ y] at hm; exact absurd rfl hm
    · intro m J hm hm0
      by_cases y : m = n
      · rw [y, Ren.ext_same] at hm; cases hm
        rcases hIb with h | h
        · left; omega
        · right; exact ⟨k, J0, hk, by rw [h0]; rfl, hJ0, h.symm⟩
      · rw [Ren.ext_ne _ _ _ _ y, hm0] at hm; cases hm
    · intro B hB hn'
      exact hrest B hB (fun h => hn' k J0 hk (by rw [h0]; rfl) hJ0 h.symm)
    · rcases hp with ⟨hp, _⟩ | ⟨_, _, _, ht⟩
      · exact hp.tape
      · exact ht.tape
    · rcases hp with ⟨hp, _⟩ | ⟨_, _, _, ht⟩
      · exact hp.os
      · exact ht.os
    · rcases hp with ⟨hp, _⟩ | ⟨_, _, _, ht⟩
      · exact hp.output
      · exact ht.output

/-! ## Lists -/
theorem dropX_get : ∀ (l : List Value) (n i : Nat), (dropX l n)[i]? = l[n + i]? := by
  intro l
  induction l with
  | nil => intro n i; cases n <;> simp [dropX]
  | cons x l ih =>
    intro n i
    cases n with
    | zero => simp [dropX]
    | succ n => rw [dropX, ih, Nat.add_right_comm, List.getElem?_cons_succ]

theorem takeX_get : ∀ (n : Nat) (l r : List Value), takeX l n = some r → r.length = n ∧ ∀ i, i < n → r[i]? = l[i]? ∧ i < l.length := by
  intro n
  induction n with
  | zero => intro l r h; cases l <;> (simp [takeX] at h; subst h; simp)
  | succ n ih =>
    intro l r h
    cases l with
    | nil => simp [takeX] at h
    | cons x l =>
      simp only [takeX, consO] at h
      split at h
      · rename_i r' h'
        cases h
        obtain ⟨h1, h2⟩ := ih l r' h'
        refine ⟨by simp [h1], fun i hi => ?_⟩
        cases i with
        | zero => simp
        | succ i => have := h2 i (by omega); simpa using this
      · cases h

theorem overX_get : ∀ (vs c r : List Value), overX c vs = some r → r.length = c.length ∧ vs.length ≤ c.length ∧ ∀ i, r[i]? = if i < vs.length then vs[i]? else c[i]? := by
  intro vs
  induction vs with
  | nil => intro c r h; cases c <;> (simp [overX] at h; subst h; simp)
  | cons v vs ih =>
    intro c r h
    cases c with
    | nil => simp [overX] at h
    | cons x c =>
      simp only [overX, consO] at h
      split at h
      · rename_i r' h'
        cases h
        obtain ⟨h1, h2, h3⟩ := ih c r' h'
        refine ⟨by simp [h1], by simpa using h2, fun i => ?_⟩
        cases i with
        | zero => simp
        | succ i => have := h3 i; simpa using this
      · cases h

theorem putX_get : ∀ (n : Nat) (c vs r : List Value), putX c n vs = some r →
    r.length = c.length ∧ (vs ≠ [] → n + vs.length ≤ c.length) ∧ ∀ i, r[i]? = if n ≤ i ∧ i < n + vs.length then vs[i - n]? else c[i]? := by
  intro n
  induction n with
  | zero =>
    intro c vs r h
    have h : overX c vs = some r := by cases c <;> exact h
    obtain ⟨h1, h2, h3⟩ := overX_get vs c r h
    refine ⟨h1, fun _ => by simpa using h2, fun i => ?_⟩
    rw [h3]; simp
  | succ n ih =>
    intro c vs r h
    cases c with
    | nil => simp [putX] at h
    | cons x c =>
      simp only [putX, consO] at h
      split at h
      · rename_i r' h'
        cases h
        obtain ⟨h1, h2, h3⟩ := ih c vs r' h'
        refine ⟨by simp [h1], fun k => by have := h2 k; simp; omega, fun i => ?_⟩
        cases i with
        | zero => simp
        | succ i =>
          have := h3 i
          rw [List.getElem?_cons_succ, this, List.getElem?_cons_succ]
          by_cases k : n ≤ i ∧ i < n + vs.length
          · rw [if_pos k, if_pos (by omega)]; congr 1; omega
          · rw [if_neg k, if_neg (by omega)]
      · cases h

/-! ## Reading -/
theorem cell_of {w : World} {B : Nat} {c : Array Value} {e : TypeId} {fz : Nat × Nat} (h : w.heap[B]? = some (.cells c e fz)) (i : Nat) : w.cell? ⟨B, i, none⟩ = c[i]? := by
  simp [World.cell?, h]

theorem readCells_rep {H : AH} {a a' : Addr} {n : Nat} {l : List Value} (h : readCells H a n = some l) {β : Ren} {w : World} (hr : Rep β H.get w)
    (ha : VR β (.pointer (some a)) (.pointer (some a'))) : a'.spot = none ∧ ∃ l', VRs β l l' ∧ l.length = n ∧ ∀ (i : Nat) (v : Value), l'[i]? = some v → w.cell? (a'.add i) = some v := by
  cases ha with
  | @ptr m o I e =>
    refine ⟨rfl, ?_⟩
    unfold readCells at h
    split at h
    · rename_i c el f z _ hg
      obtain ⟨J, o', hb, hw, hor⟩ := hr.obj m _ hg
      rw [e] at hb; cases hb
      cases hor with
      | @cells _ _ _ _ c' fz h1 h2 h3 h4 =>
        obtain ⟨g1, g2⟩ := takeX_get n _ l h
        refine ⟨(c'.toList.drop (o + I.shift)).take n, ⟨?_, ?_⟩, g1, ?_⟩
        · rw [g1]
          by_cases hn : n = 0
          · subst hn; simp
          · have hl := (g2 (n - 1) (by omega)).1
            rw [dropX_get] at hl
            have : (l[n - 1]?).isSome = true := by rw [List.getElem?_eq_getElem (by omega)]; rfl
            rw [hl] at this
            obtain ⟨v, hv⟩ := Option.isSome_iff_exists.mp this
            obtain ⟨x, hx, _⟩ := h1 _ v hv
            dsimp only at hx
            have : o + (n - 1) + I.shift < c'.size := by
              by_cases k : o + (n - 1) + I.shift < c'.size
              · exact k
              · rw [Array.getElem?_eq_none (by omega)] at hx; cases hx
            simp; omega
        · intro i hi
          rw [g1] at hi
          have hl := (g2 i hi).1
          rw [dropX_get] at hl
          have hil : i < l.length := by omega
          rw [List.getElem?_eq_getElem hil] at hl
          obtain ⟨x, hx, hv⟩ := h1 _ _ hl.symm
          rw [List.getD_eq_getElem?_getD, List.getD_eq_getElem?_getD, List.getElem?_eq_getElem hil, List.getElem?_take_of_lt hi, List.getElem?_drop]
          have : o + I.shift + i = o + i + I.shift := by omega
          rw [this, Array.getElem?_toList, hx]; exact hv
        · intro i v hv
          have hi : i < n := by
            by_cases k : i < n
            · exact k
            · rw [List.getElem?_take_eq_none (by omega)] at hv; cases hv
          rw [List.getElem?_take_of_lt hi, List.getElem?_drop, Array.getElem?_toList] at hv
          have : (⟨I.blk, o + I.shift, none⟩ : Addr).add i = ⟨I.blk, o + I.shift + i, none⟩ := by
            unfold Addr.add; split
            · rename_i k; subst k; rfl
            · rfl
          rw [this, cell_of hw]; exact hv
    · cases h

theorem run_loadCellsFrom (P : Program) (w : World) (a : Addr) : ∀ (l : List Value) (i : Nat) (acc : Array Value), (∀ (j : Nat) (v : Value), l[j]? = some v → w.cell? (a.add (i + j)) = some v) →
    (loadCellsFrom a i l.length acc).run P w = .ok (acc ++ l.toArray) w := by
  intro l
  induction l with
  | nil => intro i acc _; simp [loadCellsFrom]
  | cons x l ih =>
    intro i acc h
    have h0 := h 0 x (by simp)
    simp only [List.length_cons, loadCellsFrom, Sem.run_bind, run_load, Nat.add_zero] at h0 ⊢
    rw [h0]
    simp only [Result.andThen_ok]
    rw [ih (i + 1) (acc.push x) (fun j v hv => by have := h (j + 1) v (by simpa using hv); rw [show i + 1 + j = i + (j + 1) from by omega]; exact this)]
    simp

theorem run_loadCells (P : Program) (w : World) (a : Addr) (l : List Value) (n : Nat) (hn : l.length = n) (h : ∀ (i : Nat) (v : Value), l[i]? = some v → w.cell? (a.add i) = some v) :
    (loadCells a n).run P w = .ok l.toArray w := by
  subst hn
  have := run_loadCellsFrom P w a l 0 #[] (fun j v hv => by rw [Nat.zero_add]; exact h j v hv)
  simpa [loadCells] using this

/-! ## Writing -/
theorem oneA_eq (v : Value) : oneA v = v.oneCell' := by cases v <;> rfl

theorem VR.one {β : Ren} {v w : Value} (r : VR β v w) : oneA v = oneA w := by cases r <;> rfl

theorem frozen_of {w : World} {B : Nat} {c : Array Value} {e : TypeId} {fz : Nat × Nat} (h : w.heap[B]? = some (.cells c e fz)) (hz : fz.2 ≤ fz.1) (i : Nat) (s : Option Nat) : w.frozen? ⟨B, i, s⟩ = false := by
  obtain ⟨lo, hi⟩ := fz
  simp only [World.frozen?, h]
  simp at hz ⊢; omega

theorem setCell_heap {w : World} {B : Nat} {c : Array Value} {e : TypeId} {fz : Nat × Nat} (h : w.heap[B]? = some (.cells c e fz)) (i : Nat) (v : Value) :
    Turned w B (.cells (c.setIfInBounds i v) e fz) (w.setCell ⟨B, i, none⟩ v) := by
  have hlt : B < w.heap.size := by
    by_cases k : B < w.heap.size
    · exact k
    · rw [Array.getElem?_eq_none (by omega)] at h; cases h
  refine ⟨by simp [World.setCell], ?_, ?_, rfl, rfl, rfl⟩
  · simp only [World.setCell, Array.getElem?_modify, h]; simp
  · intro k hk
    simp only [World.setCell, Array.getElem?_modify]; rw [if_neg (by simpa using hk.symm)]

theorem Turned.trans {w w1 w2 : World} {B : Nat} {o o1 : Obj} (h : Turned w B o w1) (k : Turned w1 B o1 w2) : Turned w B o1 w2 :=
  ⟨k.size.trans h.size, k.at_, fun x hx => (k.rest x hx).trans (h.rest x hx), k.tape.trans h.tape, k.os.trans h.os, k.output.trans h.output⟩

theorem run_storeCells (P : Program) (B o : Nat) : ∀ (vs : List Value) (i : Nat) (w : World) (c : Array Value) (e : TypeId) (fz : Nat × Nat), w.heap[B]? = some (.cells c e fz) → fz.2 ≤ fz.1 →
    o + i + vs.length ≤ c.size → vs.all oneA = true → vs ≠ [] →
    ∃ w' c', (storeCells ⟨B, o, none⟩ vs i).run P w = .ok () w' ∧ Turned w B (.cells c' e fz) w' ∧ c'.size = c.size ∧
      ∀ j, c'[j]? = if o + i ≤ j ∧ j < o + i + vs.length then vs[j - (o + i)]? else c[j]? := by
  intro vs
  induction vs with
  | nil => intro i w c e fz _ _ _ _ hne; exact absurd rfl hne
  | cons v vs ih =>
    intro i w c e fz hw hz hsz hone _
    simp only [List.all_cons, Bool.and_eq_true] at hone
    simp only [List.length_cons] at hsz
    have hadd : (⟨B, o, none⟩ : Addr).add i = ⟨B, o + i, none⟩ := by
      unfold Addr.add; split
      · rename_i k; subst k; rfl
      · rfl
    have hcell : w.cell? ⟨B, o + i, none⟩ = some c[o + i] := by
      rw [cell_of hw, Array.getElem?_eq_getElem (by omega)]
    have hst : (store ((⟨B, o, none⟩ : Addr).add i) v).run P w = .ok () (w.setCell ⟨B, o + i, none⟩ v) := by
      rw [hadd, run_store P w _ v .plain (by rw [← oneA_eq]; exact hone.1), hcell]
      simp [frozen_of hw hz]
    have ht := setCell_heap hw (o + i) v
    simp only [storeCells, Sem.run_bind, hst, Result.andThen_ok]
    by_cases hvs : vs = []
    · subst hvs
      refine ⟨_, _, by simp [storeCells], ht, by simp, fun j => ?_⟩
      rw [Array.getElem?_setIfInBounds]
      by_cases k : o + i = j
      · subst k; simp; omega
      · rw [if_neg k]
        rw [if_neg (by simp; omega)]
    · obtain ⟨w', c', h1, h2, h3, h4⟩ := ih (i + 1) (w.setCell ⟨B, o + i, none⟩ v) _ e fz ht.at_ hz (by simp; omega) hone.2 hvs
      refine ⟨w', c', h1, ht.trans h2, by simpa using h3, fun j => ?_⟩
      rw [h4]
      by_cases k : o + (i + 1) ≤ j ∧ j < o + (i + 1) + vs.length
      · rw [if_pos k, if_pos (by simp; omega)]
        rw [show j - (o + i) = (j - (o + (i + 1))) + 1 from by omega, List.getElem?_cons_succ]
      · rw [if_neg k, Array.getElem?_setIfInBounds]
        by_cases k' : o + i = j
        · subst k'
          rw [if_pos rfl, if_pos (by omega), if_pos ⟨by omega, by simp only [List.length_cons]; omega⟩]; simp
        · rw [if_neg k', if_neg (by simp; omega)]

/-- A world that holds what the abstract heap holds behind a write of cells. -/
theorem writeCells_rep (P : Program) {H H' : AH} (wf : WF H) {a : Addr} {vs : List Value} (h : writeCells H a vs = some H') :
    HX H H' ∧ H'.ctr = H.ctr ∧ (∀ (β : Ren) (w : World) (a' : Addr) (vs' : List Value), Rep β H.get w → VR β (.pointer (some a)) (.pointer (some a')) → VRs β vs vs' →
      ∃ w', (storeCells a' vs').run P w = .ok () w' ∧ Rep β H'.get w' ∧ Ev β H.get H.ro H.ctr w β H'.ctr w') := by
  unfold writeCells at h
  split at h
  · rename_i c e z hs hg hone
    split at h
    · rename_i c1 hp
      obtain ⟨x1, x2, x3, x4, x5⟩ := write_rep wf hg h
      obtain ⟨p1, p2, p3⟩ := putX_get _ _ _ _ hp
      refine ⟨x1, x2, fun β w a' vs' hr ha hv => ?_⟩
      cases ha with
      | @ptr m o I eb =>
        obtain ⟨J, o', hb, hw, hor⟩ := hr.obj m _ hg
        rw [eb] at hb; cases hb
        cases hor with
        | @cells _ _ _ _ c' fz h1 h2 h3 h4 =>
          by_cases hne : vs = []
          · subst hne
            rw [hv.nil_inv]
            have ht : Turned w I.blk (.cells c' e fz) w := ⟨rfl, hw, fun _ _ => rfl, rfl, rfl, rfl⟩
            have hcc : c1 = c := by
              apply List.ext_getElem?
              intro i; rw [p3]; simp; intro h5 h6; omega
            obtain ⟨g1, g2⟩ := x5 β w w (.cells c' e fz) I hr eb ht (by rw [hcc]; exact .cells h1 h2 h3 h4)
            exact ⟨w, by simp [storeCells], g1, g2⟩
          · have hlen := p2 hne
            have hvl : vs'.length = vs.length := hv.1.symm
            have hsz : o + I.shift + vs.length ≤ c'.size := by
              dsimp only at hlen
              have hpos : 0 < vs.length := List.length_pos_iff.mpr hne
              have hlast : o + vs.length - 1 < c.length := by omega
              obtain ⟨x, hx, _⟩ := h1 _ _ (List.getElem?_eq_getElem hlast)
              have : o + vs.length - 1 + I.shift < c'.size := by
                by_cases k : o + vs.length - 1 + I.shift < c'.size
                · exact k
                · rw [Array.getElem?_eq_none (by omega)] at hx; cases hx
              omega
            have hone' : vs'.all oneA = true := by
              rw [List.all_eq_true] at hone ⊢
              intro x hx
              obtain ⟨i, hi, rfl⟩ := List.mem_iff_getElem.mp hx
              have hi' : i < vs.length := by omega
              have := hv.2 i hi'
              rw [List.getD_eq_getElem?_getD, List.getD_eq_getElem?_getD, List.getElem?_eq_getElem hi', List.getElem?_eq_getElem hi] at this
              simp only [Option.getD_some] at this
              rw [← VR.one this]; exact hone _ (List.getElem_mem hi')
            obtain ⟨w', c'', r1, r2, r3, r4⟩ := run_storeCells P I.blk (o + I.shift) vs' 0 w c' e fz hw (h3 rfl) (by omega) hone' (by intro k; subst k; simp only [List.length_nil] at hvl; exact hne (List.length_eq_zero_iff.mp hvl.symm))
            obtain ⟨g1, g2⟩ := x5 β w w' (.cells c'' e fz) I hr eb r2 (.cells (fun i v hi => by
              rw [p3] at hi
              rw [r4]
              by_cases k : o ≤ i ∧ i < o + vs.length
              · rw [if_pos k] at hi
                rw [if_pos (by omega)]
                obtain ⟨x, hx, hxv⟩ := hv.get hi
                exact ⟨x, by rw [show i + I.shift - (o + I.shift + 0) = i - o from by omega]; exact hx, hxv⟩
              · rw [if_neg k] at hi
                rw [if_neg (by omega)]
                exact h1 i v hi) (fun k => by rw [r3]; exact h2 k) h3 (fun k => by rw [r3, p1]; exact h4 k))
            exact ⟨w', r1, g1, g2⟩
    · cases h
  · cases h

end Go.Proofs.YtlbmihpmcgiinaaGreatDoor.Own
end
