/- E1: an evaluator over abstract values: definitions only (no proof, no program). -/
import Derived.WalkKit
import Derived.KernelRfl
set_option linter.unusedVariables false
namespace Go.ScE

/-- Self-contained data: a scalar without addresses, or a slice by value (element size in cells, chunks of cells). -/
inductive PV where
  | lit (v : Value)
  | sl (sz : Nat) (l : List (List PV))
  deriving Inhabited

/-- A cell: data; a growable slice owned here; a pointer into immutable cells; a pointer into a box; into an array; a whole array (a part of it); a map; nothing known. -/
inductive CV where
  | p (x : PV)
  | own (sz : Nat) (l : List (List PV))
  | ipt (cs : List PV) (off : Nat)
  | ref (d k off : Nat)
  | aref (d k sz i off : Nat)
  | arr (d k sz off n : Nat)
  | mp (d k : Nat)
  | dead
  deriving Inhabited

inductive AV where
  | c (x : CV)
  | agg (l : List CV)
  | tup (l : List (Bool × List CV))
  deriving Inhabited

inductive HO where
  | box (cs : List CV)
  | arr (sz : Nat) (l : List (List PV))
  | map (es : List (Value × Bool × List PV))
  deriving Inhabited

abbrev Fram := List (Nat × HO)
abbrev Env := List (Nat × AV)
abbrev Callee := FuncId → List AV → List Fram → AV × List Fram × Bool

structure St where
  env : Env
  fr : Fram
  up : List Fram
  ok : Bool

/-- Operands: a slot; a slot whose ownership is taken; data; an aggregate of data. -/
inductive XO where
  | t (n : Nat)
  | tk (n : Nat)
  | k (p : PV)
  | kn (sz : Nat)
  | ka (cs : List PV)

inductive XK where
  | mv | pick
  | alloc (s : Nat) (agg : Bool) (z : List PV)
  | box (s : Nat)
  | bld (z : List PV) (offs : List (Nat × Nat))
  | blds (sz : Nat) (z : List PV) (n : Nat) (idx : List Nat)
  | ld (agg : Bool) (n : Nat) (take : Bool)
  | st (n : Nat)
  | nck
  | bin (op : BinOp) (bq : Bool) | un (op : UnOp)
  | cvi (k : IntKind) | cbs | csb | fld (agg : Bool) (off n : Nat) | beq (neg : Bool) (n : Nat)
  | fa (off : Nat)
  | ia (sz : Nat) | iaa (sz n : Nat) | ixs
  | slS (lo hi : Bool) | slL (sz : Nat) (lo hi : Bool) | slA (sz n : Nat) (lo hi : Bool)
  | ext (i : Nat)
  | lenS | lenL | lenM
  | app (sz bytes : Nat)
  | mx | mn
  | call (f : FuncId) | callv
  | mkm (s : Nat) | mks (s sz : Nat) (z : List PV)
  | lk (zagg : Bool) (z : List PV) (ok : Bool) | mu | del
  | copy (sz : Nat)

structure XOper where
  dst : Option Nat
  g : Option (Nat × Bool)
  op : XK
  xs : List XO

/-- An operation of a region that draws its order: sites that it may not read, and whether it stands by itself. -/
structure XOperD where
  x : XOper
  forb : List Nat
  iso : Bool

inductive XCode where
  | skip
  | regionD (ops : List XOperD) (live : List Nat)
  | region (draw : Bool) (ops : List XOper) (live : List Nat)
  | seq (a b : XCode)
  | cond (c : XO) (a b : XCode)
  | block (id : Nat) (b : XCode)
  | loop (live keep : List Nat) (b : XCode)
  | exit (id : Nat)
  | ret

inductive XRes where
  | tmp (t : Nat)
  | cell (t : Nat) (agg : Bool) (n : Nat)

structure XFunc where
  np : Nat
  res : List XRes
  body : XCode

/-! ### small words -/
@[reducible] def pI (n : Int) : PV := .lit (.int .i64 n)
@[reducible] def pK (k : IntKind) (n : Int) : PV := .lit (.int k n)
@[reducible] def pB (b : Bool) : PV := .lit (.bool b)
@[reducible] def pS (l : List UInt8) : PV := .lit (.string ⟨⟨l⟩⟩)
@[reducible] def pF (f : FuncId) : PV := .lit (.func (.func f) #[] #[])
def pbool (b : Bool) : AV := .c (.p (.lit (.bool b)))
def pint (k : IntKind) (n : Int) : AV := .c (.p (.lit (.int k n)))
def deadA : AV := .c .dead
def undefA : AV := .tup []

def look (t : Nat) : Env → AV
  | [] => deadA
  | (t', x) :: r => if t' = t then x else look t r

def demC : CV → CV
  | .own sz l => .p (.sl sz l)
  | x => x
def demL : List CV → List CV
  | [] => []
  | x :: r => demC x :: demL r
def demT : List (Bool × List CV) → List (Bool × List CV)
  | [] => []
  | (b, l) :: r => (b, demL l) :: demT r
def demA : AV → AV
  | .c x => .c (demC x)
  | .agg l => .agg (demL l)
  | .tup l => .tup (demT l)

/-- Pointers of a cell, seen from so many frames further in. -/
def upC (n : Nat) : CV → CV
  | .ref d k o => .ref (d + n) k o
  | .aref d k sz i o => .aref (d + n) k sz i o
  | .arr d k sz o m => .arr (d + n) k sz o m
  | .mp d k => .mp (d + n) k
  | x => x
def upL (n : Nat) : List CV → List CV
  | [] => []
  | x :: r => upC n x :: upL n r
def upT (n : Nat) : List (Bool × List CV) → List (Bool × List CV)
  | [] => []
  | (b, l) :: r => (b, upL n l) :: upT n r
def upA (n : Nat) : AV → AV
  | .c x => .c (upC n x)
  | .agg l => .agg (upL n l)
  | .tup l => .tup (upT n l)
def upAs (n : Nat) : List AV → List AV
  | [] => []
  | x :: r => upA n x :: upAs n r

/-- Does a cell point to no frame further in than n? -/
def outC (n : Nat) : CV → Bool
  | .ref d _ _ | .aref d _ _ _ _ | .arr d _ _ _ _ | .mp d _ => n ≤ d
  | _ => true
def outL (n : Nat) : List CV → Bool
  | [] => true
  | x :: r => outC n x && outL n r
def outT (n : Nat) : List (Bool × List CV) → Bool
  | [] => true
  | (_, l) :: r => outL n l && outT n r
def outA (n : Nat) : AV → Bool
  | .c x => outC n x
  | .agg l => outL n l
  | .tup l => outT n l

def downC (n : Nat) : CV → CV
  | .ref d k o => .ref (d - n) k o
  | .aref d k sz i o => .aref (d - n) k sz i o
  | .arr d k sz o m => .arr (d - n) k sz o m
  | .mp d k => .mp (d - n) k
  | x => x
def downL (n : Nat) : List CV → List CV
  | [] => []
  | x :: r => downC n x :: downL n r
def downT (n : Nat) : List (Bool × List CV) → List (Bool × List CV)
  | [] => []
  | (b, l) :: r => (b, downL n l) :: downT n r
def downA (n : Nat) : AV → AV
  | .c x => .c (downC n x)
  | .agg l => .agg (downL n l)
  | .tup l => .tup (downT n l)

/-- No pointer to any frame. -/
def freeC : CV → Bool
  | .ref .. | .aref .. | .arr .. | .mp .. => false
  | _ => true
def freeL : List CV → Bool
  | [] => true
  | x :: r => freeC x && freeL r
def freeT : List (Bool × List CV) → Bool
  | [] => true
  | (_, l) :: r => freeL l && freeT r
def freeA : AV → Bool
  | .c x => freeC x
  | .agg l => freeL l
  | .tup l => freeT l
def freeAs : List AV → Bool
  | [] => true
  | x :: r => freeA x && freeAs r

/-- Pointers to the innermost frame lead to sites of a list only. -/
def keptC (ks : List Nat) : CV → Bool
  | .ref d k _ | .aref d k _ _ _ | .arr d k _ _ _ | .mp d k => d != 0 || ks.contains k
  | _ => true
def keptL (ks : List Nat) : List CV → Bool
  | [] => true
  | x :: r => keptC ks x && keptL ks r
def keptT (ks : List Nat) : List (Bool × List CV) → Bool
  | [] => true
  | (_, l) :: r => keptL ks l && keptT ks r
def keptA (ks : List Nat) : AV → Bool
  | .c x => keptC ks x
  | .agg l => keptL ks l
  | .tup l => keptT ks l

def pvs : List PV → List CV
  | [] => []
  | x :: r => .p x :: pvs r
/-- Cells of a zero value: a nil slice may be appended to. -/
def zC : PV → CV
  | .sl sz [] => .own sz []
  | x => .p x
def zvs : List PV → List CV
  | [] => []
  | x :: r => zC x :: zvs r
/-- Data alone: slices owned become slices by value. -/
def toP : CV → Option PV
  | .p x => some x
  | .own sz l => some (.sl sz l)
  | _ => none
def toPs : List CV → Option (List PV)
  | [] => some []
  | x :: r => match toP x, toPs r with | some p, some ps => some (p :: ps) | _, _ => none
def cellsA : AV → Option (List CV)
  | .c .dead => none
  | .c x => some [x]
  | .agg l => some l
  | .tup _ => none
def isAggA : AV → Bool
  | .agg _ => true
  | _ => false
def mkA (agg : Bool) (l : List CV) : AV := match agg, l with
  | true, l => .agg l
  | false, [x] => .c x
  | false, _ => deadA

def rdO (e : Env) : XO → AV × Env
  | .t n => (demA (look n e), e)
  | .tk n => (look n e, (n, demA (look n e)) :: e)
  | .k p => (.c (.p p), e)
  | .kn sz => (.c (.own sz []), e)
  | .ka cs => (.agg (zvs cs), e)
def rdOs : Env → List XO → List AV × Env
  | e, [] => ([], e)
  | e, x :: r => let (v, e1) := rdO e x; let (vs, e2) := rdOs e1 r; (v :: vs, e2)

def hget (k : Nat) : Fram → Option HO
  | [] => none
  | (k', h) :: r => if k' = k then some h else hget k r
def hset (k : Nat) (h : HO) : Fram → Fram
  | [] => []
  | (k', h') :: r => if k' = k then (k, h) :: r else (k', h') :: hset k h r
def hhas (k : Nat) (f : Fram) : Bool := (hget k f).isSome
def fget : Nat → List Fram → Fram
  | _, [] => []
  | 0, f :: _ => f
  | n + 1, _ :: r => fget n r
def fset : Nat → Fram → List Fram → List Fram
  | _, _, [] => []
  | 0, g, _ :: r => g :: r
  | n + 1, g, f :: r => f :: fset n g r
def getH (d k : Nat) (fs : List Fram) : Option HO := hget k (fget d fs)
def setH (d k : Nat) (h : HO) (fs : List Fram) : List Fram := fset d (hset k h (fget d fs)) fs

/-- The cells [off, off+n) of a list. -/
def cut {α : Type} (off n : Nat) (l : List α) : List α := (l.drop off).take n
def put {α : Type} (l : List α) (off : Nat) (xs : List α) : List α := l.take off ++ xs ++ l.drop (off + xs.length)
def untake : CV → CV
  | .own sz l => .p (.sl sz l)
  | x => x
def untakeL : List CV → List CV
  | [] => []
  | x :: r => untake x :: untakeL r

/-- What a slice holds: by value, owned, or an array. -/
def listOf (sz : Nat) (fs : List Fram) : AV → Option (List (List PV))
  | .c (.p (.sl sz' l)) => if sz' = sz then some l else none
  | .c (.own sz' l) => if sz' = sz then some l else none
  | .c (.arr d k sz' off n) => match getH d k fs with
    | some (.arr sz2 l) => if sz' = sz ∧ sz2 = sz ∧ off + n ≤ l.length then some ((l.drop off).take n) else none
    | _ => none
  | .c (.p (.lit (.string s))) => if sz = 1 then some (s.data.toList.map fun b => [.lit (.int .u8 b.toNat)]) else none
  | _ => none

/-- The bytes that a row holds. -/
def bytesL : List (List PV) → Option (List UInt8)
  | [] => some []
  | [.lit (.int .u8 n)] :: r => (match bytesL r with
      | some bs => some (UInt8.ofNat n.toNat :: bs)
      | none => none)
  | _ => none
/-- Two rows of integers, alike or not. -/
def eqCs : List CV → List CV → Option Bool
  | [], [] => some true
  | .p (.lit (.int j a)) :: r, .p (.lit (.int k b)) :: s => if j = k then (match eqCs r s with
      | some y => some (a == b && y)
      | none => none) else none
  | _, _ => none
def isStr : AV → Bool
  | .c (.p (.lit _)) => true
  | _ => false

def evBin : BinOp → Value → Value → Option Value
  | .shl, .int k a, .int _ b => if b < 0 then none else some (.int k (k.wrap (a * 2 ^ (min b.toNat k.bits))))
  | .shr, .int k a, .int _ b => if b < 0 then none else some (.int k (a.fdiv (2 ^ (min b.toNat k.bits))))
  | op, .int k a, .int k' b => if k ≠ k' then none else match op with
    | .add => some (.int k (k.wrap (a + b)))
    | .sub => some (.int k (k.wrap (a - b)))
    | .mul => some (.int k (k.wrap (a * b)))
    | .quo => if b = 0 then none else some (.int k (k.wrap (a.tdiv b)))
    | .rem => if b = 0 then none else some (.int k (a.tmod b))
    | .and => some (.int k (k.wrap (BitVec.ofInt k.bits a &&& BitVec.ofInt k.bits b).toNat))
    | .or => some (.int k (k.wrap (BitVec.ofInt k.bits a ||| BitVec.ofInt k.bits b).toNat))
    | .xor => some (.int k (k.wrap (BitVec.ofInt k.bits a ^^^ BitVec.ofInt k.bits b).toNat))
    | .andNot => some (.int k (k.wrap (BitVec.ofInt k.bits a &&& ~~~ BitVec.ofInt k.bits b).toNat))
    | .eql => some (.bool (a == b))
    | .neq => some (.bool (a != b))
    | .lss => some (.bool (decide (a < b)))
    | .leq => some (.bool (decide (a ≤ b)))
    | .gtr => some (.bool (decide (a > b)))
    | .geq => some (.bool (decide (a ≥ b)))
    | _ => none
  | .add, .string a, .string b => if a.size + b.size ≤ 9223372036854775807 then some (.string (a ++ b)) else none
  | .eql, .string a, .string b => some (.bool (a.toList == b.toList))
  | .neq, .string a, .string b => some (.bool (!(a.toList == b.toList)))
  | .lss, .string a, .string b => some (.bool (Op.bytesLess a.toList b.toList))
  | .leq, .string a, .string b => some (.bool (Op.bytesLess a.toList b.toList || a.toList == b.toList))
  | .gtr, .string a, .string b => some (.bool !(Op.bytesLess a.toList b.toList || a.toList == b.toList))
  | .geq, .string a, .string b => some (.bool !(Op.bytesLess a.toList b.toList))
  | .eql, .bool a, .bool b => some (.bool (a == b))
  | .neq, .bool a, .bool b => some (.bool (!(a == b)))
  | _, _, _ => none

def evBinQ (bq : Bool) (op : BinOp) (a b : Value) : Option Value := match a with
  | .bool _ => if bq then evBin op a b else none
  | _ => evBin op a b

def evUn : UnOp → Value → Option Value
  | .neg, .int k n => some (.int k (k.wrap (0 - n)))
  | .xor, .int k n => some (.int k (k.wrap (BitVec.ofInt k.bits (if k.signed then -1 else k.max) ^^^ BitVec.ofInt k.bits n).toNat))
  | .not, .bool b => some (.bool !b)
  | _, _ => none

def litC : Option Value → AV × Bool
  | some v => (.c (.p (.lit v)), true)
  | none => (deadA, false)

/-- fill: parts laid into cells. -/
def fillX : List CV → List (Nat × Nat) → List AV → Option (List CV)
  | cs, [], [] => some cs
  | cs, (off, n) :: r, v :: vs => match cellsA v with
    | some l => if l.length = n ∧ off + n ≤ cs.length then fillX (put cs off l) r vs else none
    | none => none
  | _, _, _ => none
def fillS (sz : Nat) : List (List PV) → List Nat → List AV → Option (List (List PV))
  | cs, [], [] => some cs
  | cs, i :: r, v :: vs => match (cellsA v).bind toPs with
    | some l => if l.length = sz ∧ i < cs.length then fillS sz (cs.set i l) r vs else none
    | none => none
  | _, _, _ => none

def keyEq : Value → Value → Bool
  | .string a, .string b => a == b
  | _, _ => false
def keyOk : Value → Bool
  | .string _ => true
  | _ => false
def mget (k : Value) : List (Value × Bool × List PV) → Option (Bool × List PV)
  | [] => none
  | (k', x) :: r => if keyEq k k' then some x else mget k r
def mset (k : Value) (x : Bool × List PV) : List (Value × Bool × List PV) → List (Value × Bool × List PV)
  | [] => [(k, x)]
  | (k', y) :: r => if keyEq k k' then (k, x) :: r else (k', y) :: mset k x r
def mdel (k : Value) : List (Value × Bool × List PV) → List (Value × Bool × List PV)
  | [] => []
  | (k', y) :: r => if keyEq k k' then r else (k', y) :: mdel k r

/-- The greatest room (in cells times bytes) that an append may come to here. -/
def roomy : Nat := 2 ^ 46

abbrev ActR := AV × Fram × List Fram × Bool

def bad (fr : Fram) (up : List Fram) : ActR := (deadA, fr, up, false)
def same (fr : Fram) (up : List Fram) (r : AV × Bool) : ActR := (r.1, fr, up, r.2)
def same2 (fs : List Fram) (x : AV) : ActR := match fs with
  | fr :: up => (x, fr, up, true)
  | [] => (x, [], [], false)

def intOfA : AV → Option Int
  | .c (.p (.lit (.int _ n))) => some n
  | _ => none

def slOf (sz : Nat) : CV → Option (List (List PV))
  | .p (.sl sz' l) => if sz' = sz then some l else none
  | .own sz' l => if sz' = sz then some l else none
  | _ => none

def act (C : Callee) (op : XK) (vs : List AV) (fr : Fram) (up : List Fram) : ActR :=
  match op with
  | .mv => (match vs with
    | [x] => (x, fr, up, true)
    | _ => bad fr up)
  | .pick => (match vs with
    | [.c (.p (.lit (.bool c))), a, b] => (match c with | true => a | false => b, fr, up, true)
    | _ => bad fr up)
  | .alloc s _ z => (match vs with
    | [] => (.c (.ref 0 s 0), (s, .box (zvs z)) :: fr, up, !hhas s fr)
    | _ => bad fr up)
  | .box s => (match vs with
    | [x] => (match cellsA x with
        | some l => (.c (.ref 0 s 0), (s, .box l) :: fr, up, !hhas s fr)
        | none => bad fr up)
    | _ => bad fr up)
  | .bld z offs => (match vs with
    | xs => (match fillX (zvs z) offs xs with
        | some l => (.agg l, fr, up, true)
        | none => bad fr up))
  | .blds sz z n idx => (match vs with
    | xs => (match fillS sz (List.replicate n z) idx xs with
        | some l => (.c (.own sz l), fr, up, decide (n * sz ≤ 16777216))
        | none => bad fr up))
  | .ld agg n take => (match vs with
    | [.c x] => (match x with
        | .ipt cs off => (mkA agg (pvs (cut off n cs)), fr, up, decide (off + n ≤ cs.length))
        | .ref d k off => (match getH d k (fr :: up) with
          | some (.box cs) =>
            let l := cut off n cs
            let g := decide (off + n ≤ cs.length)
            if take then (match fset d (hset k (.box (put cs off (untakeL l))) (fget d (fr :: up))) (fr :: up) with
              | fr' :: up' => (mkA agg (upL d l), fr', up', g)
              | [] => bad fr up)
            else (mkA agg (upL d (demL l)), fr, up, g)
          | _ => bad fr up)
        | .aref d k sz i off => (match getH d k (fr :: up) with
          | some (.arr sz' l) => (mkA agg (pvs (cut off n (l.getD i []))), fr, up, decide (sz' = sz ∧ i < l.length ∧ off + n ≤ sz))
          | _ => bad fr up)
        | _ => bad fr up)
    | _ => bad fr up)
  | .st n => (match vs with
    | [.c x, v] => (match x with
        | .ref d k off => (match getH d k (fr :: up), cellsA v with
          | some (.box cs), some l => (match setH d k (.box (put cs off (downL d l))) (fr :: up) with
            | fr' :: up' => (undefA, fr', up', decide (l.length = n ∧ off + n ≤ cs.length) && outL d l)
            | [] => bad fr up)
          | _, _ => bad fr up)
        | .aref d k sz i off => (match getH d k (fr :: up), (cellsA v).bind toPs with
          | some (.arr sz' l), some xs => (match setH d k (.arr sz' (l.set i (put (l.getD i []) off xs))) (fr :: up) with
            | fr' :: up' => (undefA, fr', up', decide (sz' = sz ∧ xs.length = n ∧ i < l.length ∧ off + n ≤ sz))
            | [] => bad fr up)
          | _, _ => bad fr up)
        | _ => bad fr up)
    | _ => bad fr up)
  | .nck => (match vs with
    | [.c x] => (match x with
        | .ref .. | .aref .. | .ipt .. => (.c x, fr, up, true)
        | _ => bad fr up)
    | _ => bad fr up)
  | .bin op bq => (match vs with
    | [.c (.p (.lit a)), .c (.p (.lit b))] => same fr up (litC (evBinQ bq op a b))
    | _ => bad fr up)
  | .un op => (match vs with
    | [.c (.p (.lit a))] => same fr up (litC (evUn op a))
    | _ => bad fr up)
  | .cvi k => (match vs with
    | [.c (.p (.lit (.int _ n)))] => (pint k (k.wrap n), fr, up, true)
    | _ => bad fr up)
  | .cbs => (match vs with
    | [y] => (match isStr y, listOf 1 (fr :: up) y with
        | false, some l => (match bytesL l with
            | some bs => (.c (.p (.lit (.string ⟨⟨bs⟩⟩))), fr, up, true)
            | none => bad fr up)
        | _, _ => bad fr up)
    | _ => bad fr up)
  | .fa off => (match vs with
    | [.c x] => (match x with
        | .ref d k o => (.c (.ref d k (o + off)), fr, up, true)
        | .aref d k sz i o => (.c (.aref d k sz i (o + off)), fr, up, true)
        | .ipt cs o => (.c (.ipt cs (o + off)), fr, up, true)
        | _ => bad fr up)
    | _ => bad fr up)
  | .ia sz => (match vs with
    | [.c x, .c (.p (.lit (.int _ i)))] => (match x with
        | .p (.sl sz' l) => (.c (.ipt (l.getD i.toNat []) 0), fr, up, decide (sz' = sz ∧ 0 ≤ i ∧ i < l.length))
        | .own sz' l => (.c (.ipt (l.getD i.toNat []) 0), fr, up, decide (sz' = sz ∧ 0 ≤ i ∧ i < l.length))
        | .arr d k sz' off n => (.c (.aref d k sz (off + i.toNat) 0), fr, up, decide (sz' = sz ∧ 0 ≤ i ∧ i < n))
        | _ => bad fr up)
    | _ => bad fr up)
  | .iaa sz n => (match vs with
    | [.c x, .c (.p (.lit (.int _ i)))] => (match x with
        | .ref d k o => (.c (.ref d k (o + i.toNat * sz)), fr, up, decide (0 ≤ i ∧ i < n))
        | .aref d k sz' j o => (.c (.aref d k sz' j (o + i.toNat * sz)), fr, up, decide (0 ≤ i ∧ i < n))
        | .ipt cs o => (.c (.ipt cs (o + i.toNat * sz)), fr, up, decide (0 ≤ i ∧ i < n))
        | _ => bad fr up)
    | _ => bad fr up)
  | .ixs => (match vs with
    | [.c (.p (.lit (.string s))), .c (.p (.lit (.int _ i)))] => 
        (pint .u8 ((s.data.toList.getD i.toNat 0).toNat), fr, up, decide (0 ≤ i ∧ i < s.size))
    | _ => bad fr up)
  | .beq neg n => (match vs with
    | [.agg l, .agg m] => (match eqCs l m with
        | some b => (pbool (b != neg), fr, up, l.length == n)
        | none => bad fr up)
    | _ => bad fr up)
  | .fld agg off n => (match vs with
    | [.agg l] => (mkA agg (cut off n l), fr, up, decide (off + n ≤ l.length) && (agg || n == 1))
    | _ => bad fr up)
  | .ext i => (match vs with
    | [.tup l] => (match l[i]? with
        | some (b, cs) => (mkA b cs, fr, up, true)
        | none => bad fr up)
    | _ => bad fr up)
  | .lenS => (match vs with
    | [.c (.p (.lit (.string s)))] => (pint .i64 s.size, fr, up, true)
    | _ => bad fr up)
  | .lenL => (match vs with
    | [.c x] => (match x with
        | .p (.sl _ l) => (pint .i64 l.length, fr, up, true)
        | .own _ l => (pint .i64 l.length, fr, up, true)
        | .arr _ _ _ _ n => (pint .i64 n, fr, up, true)
        | _ => bad fr up)
    | _ => bad fr up)
  | .lenM => (match vs with
    | [.c (.mp d k)] => (match getH d k (fr :: up) with
        | some (.map es) => (pint .i64 es.length, fr, up, true)
        | _ => bad fr up)
    | _ => bad fr up)
  | .app sz bytes => (match vs with
    | [.c x, y] => (match listOf sz (fr :: up) y with
        | some ys => (match x with
          | .own sz' l => (.c (.own sz (l ++ ys)), fr, up, decide (sz' = sz ∧ (l.length + ys.length) * bytes ≤ roomy))
          | _ => bad fr up)
        | none => bad fr up)
    | _ => bad fr up)
  | .mx => (match vs with
    | [.c (.p (.lit (.int k a))), .c (.p (.lit (.int j b)))] => (pint k (if b > a then b else a), fr, up, decide (k = j))
    | _ => bad fr up)
  | .mn => (match vs with
    | [.c (.p (.lit (.int k a))), .c (.p (.lit (.int j b)))] => (pint k (if b < a then b else a), fr, up, decide (k = j))
    | _ => bad fr up)
  | .call f => (match vs with
    | xs => 
        (match freeAs xs with
        | true => let (r, _, ok) := C f xs []; (r, fr, up, ok && freeA r)
        | false => match C f xs (fr :: up) with
          | (r, fr' :: up', ok) => (r, fr', up', ok)
          | _ => bad fr up))
  | .callv => (match vs with
    | .c (.p (.lit (.func (.func f) c1 c2))) :: xs => 
        (match c1.size == 0 && c2.size == 0, freeAs xs with
        | true, true => let (r, _, ok) := C f xs []; (r, fr, up, ok && freeA r)
        | true, false => match C f xs (fr :: up) with
          | (r, fr' :: up', ok) => (r, fr', up', ok)
          | _ => bad fr up
        | _, _ => bad fr up)
    | _ => bad fr up)
  | .mkm s => (.c (.mp 0 s), (s, .map []) :: fr, up, !hhas s fr)
  | .mks s sz z => (match vs with
    | [.c (.p (.lit (.int .i64 n))), .c (.p (.lit (.int .i64 m)))] => 
        (.c (.arr 0 s sz 0 n.toNat), (s, .arr sz (List.replicate n.toNat z)) :: fr, up, !hhas s fr && decide (0 ≤ n ∧ n = m ∧ n * 64 ≤ roomy))
    | _ => bad fr up)
  | .lk zagg z ok => (match vs with
    | [.c (.mp d k), .c (.p (.lit key))] => (match getH d k (fr :: up) with
        | some (.map es) =>
          let (b, cs, found) := match mget key es with | some (b, cs) => (b, cs, true) | none => (zagg, z, false)
          (if ok then .tup [(b, pvs cs), (false, [.p (.lit (.bool found))])] else mkA b (pvs cs), fr, up, keyOk key)
        | _ => bad fr up)
    | _ => bad fr up)
  | .mu => (match vs with
    | [.c (.mp d k), .c (.p (.lit key)), v] => (match getH d k (fr :: up), (cellsA v).bind toPs with
        | some (.map es), some xs => (match setH d k (.map (mset key (isAggA v, xs) es)) (fr :: up) with
          | fr' :: up' => (undefA, fr', up', keyOk key)
          | [] => bad fr up)
        | _, _ => bad fr up)
    | _ => bad fr up)
  | .copy sz => (match vs with
    | [.c (.arr d k sz' off n), y] => (match getH d k (fr :: up), listOf sz (fr :: up) y with
        | some (.arr sz2 l), some ys => (match setH d k (.arr sz2 (put l off ys)) (fr :: up) with
          | fr' :: up' => (pint .i64 ys.length, fr', up', decide (sz' = sz ∧ sz2 = sz ∧ off + n ≤ l.length ∧ ys.length ≤ n))
          | [] => bad fr up)
        | _, _ => bad fr up)
    | _ => bad fr up)
  | .slS true true => (match vs with
    | [.c (.p (.lit (.string s))), .c (.p (.lit (.int _ a))), .c (.p (.lit (.int _ b)))] => (.c (.p (.lit (.string (s.extract a.toNat b.toNat)))), fr, up, decide (0 ≤ a ∧ a ≤ b ∧ b ≤ s.size))
    | _ => bad fr up)
  | .slS true false => (match vs with
    | [.c (.p (.lit (.string s))), .c (.p (.lit (.int _ a)))] => (.c (.p (.lit (.string (s.extract a.toNat s.size)))), fr, up, decide (0 ≤ a ∧ a ≤ s.size))
    | _ => bad fr up)
  | .slS false true => (match vs with
    | [.c (.p (.lit (.string s))), .c (.p (.lit (.int _ b)))] => (.c (.p (.lit (.string (s.extract 0 b.toNat)))), fr, up, decide (0 ≤ b ∧ b ≤ s.size))
    | _ => bad fr up)
  | .slL sz true true => (match vs with
    | [.c x, .c (.p (.lit (.int _ a))), .c (.p (.lit (.int _ b)))] => (match slOf sz x with
      | some l => (.c (.p (.sl sz ((l.take b.toNat).drop a.toNat))), fr, up, decide (0 ≤ a ∧ a ≤ b ∧ b ≤ l.length))
      | none => bad fr up)
    | _ => bad fr up)
  | .slL sz true false => (match vs with
    | [.c x, .c (.p (.lit (.int _ a)))] => (match slOf sz x with
      | some l => (.c (.p (.sl sz (l.drop a.toNat))), fr, up, decide (0 ≤ a ∧ a ≤ l.length))
      | none => bad fr up)
    | _ => bad fr up)
  | .slL sz false true => (match vs with
    | [.c x, .c (.p (.lit (.int _ b)))] => (match slOf sz x with
      | some l => (.c (.p (.sl sz (l.take b.toNat))), fr, up, decide (0 ≤ b ∧ b ≤ l.length))
      | none => bad fr up)
    | _ => bad fr up)
  | _ => bad fr up

/-- Is an operation wanted? (its guard) -/
def wantedX (e : Env) : Option (Nat × Bool) → Option Bool
  | none => some true
  | some (t, b) => match look t e with
    | .c (.p (.lit (.bool c))) => some (c == b)
    | .tup [] => some false
    | _ => none

def putE (dst : Option Nat) (x : AV) (e : Env) : Env := match dst with
  | some d => (d, x) :: e
  | none => e

def stepX (C : Callee) (o : XOper) (σ : St) : St :=
  match wantedX σ.env o.g with
  | some true =>
    match rdOs σ.env o.xs with
    | (vs, e1) => match act C o.op vs σ.fr σ.up with
      | (r, fr, up, ok) => { env := putE o.dst r e1, fr, up, ok := σ.ok && ok }
  | some false => { σ with env := putE o.dst undefA σ.env }
  | none => { σ with ok := false }

def stepsX (C : Callee) : List XOper → St → St
  | [], σ => σ
  | o :: r, σ => stepsX C r (stepX C o σ)

def avoidC (av : List Nat) : CV → Bool
  | .ref d k _ | .aref d k _ _ _ | .arr d k _ _ _ | .mp d k => d != 0 || !av.contains k
  | _ => true
def avoidA (av : List Nat) : AV → Bool
  | .c x => avoidC av x
  | _ => true
def avoidAs (av : List Nat) : List AV → Bool
  | [] => true
  | x :: r => avoidA av x && avoidAs av r
def isCall : XK → Bool
  | .call _ | .callv => true
  | _ => false
def dynD (o : XOperD) (σ : St) : Bool := match wantedX σ.env o.x.g with
  | some true => (match (rdOs σ.env o.x.xs).1 with
    | vs => (!isCall o.x.op || o.iso || freeAs vs) && avoidAs o.forb vs)
  | _ => true
def stepD (C : Callee) (o : XOperD) (σ : St) : St := match stepX C o.x σ with
  | σ1 => { σ1 with ok := σ1.ok && dynD o σ }
def stepsD (C : Callee) : List XOperD → St → St
  | [], σ => σ
  | o :: r, σ => stepsD C r (stepD C o σ)

def keepE : List Nat → Env → Env
  | [], _ => []
  | t :: r, e => (t, look t e) :: keepE r e

def keptE (ks : List Nat) : Env → Bool
  | [] => true
  | (_, x) :: r => keptA ks x && keptE ks r
def keepF (ks : List Nat) : Fram → Fram
  | [] => []
  | (k, h) :: r => if ks.contains k then (k, h) :: keepF ks r else keepF ks r
def keptF (ks : List Nat) : Fram → Bool
  | [] => true
  | (_, .box cs) :: r => keptL ks cs && keptF ks r
  | _ :: r => keptF ks r
def headX (live keep : List Nat) (σ : St) : St :=
  { env := keepE live σ.env, fr := keepF keep σ.fr, up := σ.up, ok := σ.ok && keptE keep (keepE live σ.env) && keptF keep (keepF keep σ.fr) }

inductive Ex where
  | normal
  | exit (id : Nat)
  | ret

def loopX (body : St → Ex × St) (head : St → St) : Nat → St → Ex × St
  | 0, σ => (.normal, { σ with ok := false })
  | n + 1, σ => match body (head σ) with
    | (.normal, σ1) => loopX body head n σ1
    | r => r

def evC (C : Callee) (n : Nat) : XCode → St → Ex × St
  | .skip, σ => (.normal, σ)
  | .region _ ops live, σ => match stepsX C ops σ with
    | σ1 => (.normal, { σ1 with env := keepE live σ1.env })
  | .regionD ops live, σ => match stepsD C ops σ with
    | σ1 => (.normal, { σ1 with env := keepE live σ1.env })
  | .seq a b, σ => match evC C n a σ with
    | (.normal, σ1) => evC C n b σ1
    | r => r
  | .cond c a b, σ => match (rdO σ.env c).1 with
    | .c (.p (.lit (.bool t))) => (match t with
      | true => evC C n a σ
      | false => evC C n b σ)
    | _ => (.normal, { σ with ok := false })
  | .block id b, σ => match evC C n b σ with
    | (.exit j, σ1) => if j = id then (.normal, σ1) else (.exit j, σ1)
    | r => r
  | .loop live keep b, σ => loopX (evC C n b) (headX live keep) n σ
  | .exit id, σ => (.exit id, σ)
  | .ret, σ => (.ret, σ)

def resX (σ : St) : XRes → Option ((Bool × List CV) × St)
  | .tmp t => match look t σ.env with
    | .c x => some ((false, [x]), { σ with env := (t, .c (demC x)) :: σ.env })
    | .agg l => some ((true, l), { σ with env := (t, .agg (demL l)) :: σ.env })
    | .tup _ => none
  | .cell t agg n => match look t σ.env with
    | .c (.ref 0 k off) => match hget k σ.fr with
      | some (.box cs) => if off + n ≤ cs.length then some ((agg, cut off n cs), { σ with fr := hset k (.box (put cs off (untakeL (cut off n cs)))) σ.fr }) else none
      | _ => none
    | _ => none
def resXs : St → List XRes → Option (List (Bool × List CV))
  | _, [] => some []
  | σ, r :: rs => match resX σ r with
    | some (x, σ1) => (match resXs σ1 rs with
      | some xs => some (x :: xs)
      | none => none)
    | none => none

def tupA : List (Bool × List CV) → AV
  | [(b, l)] => mkA b l
  | l => .tup l

def zipArgs : Nat → List AV → Env
  | _, [] => []
  | n, x :: r => (n, x) :: zipArgs (n + 1) r

/-- A row that was made here and is handed out: nobody writes it any more. -/
def frzC (fr : Fram) : CV → CV
  | .arr 0 k sz off n => (match hget k fr with
      | some (.arr sz' l) => if sz' = sz ∧ off + n ≤ l.length then .p (.sl sz ((l.drop off).take n)) else .arr 0 k sz off n
      | _ => .arr 0 k sz off n)
  | x => x
def frzL (fr : Fram) : List CV → List CV
  | [] => []
  | x :: r => frzC fr x :: frzL fr r
def frzT (fr : Fram) : List (Bool × List CV) → List (Bool × List CV)
  | [] => []
  | (b, l) :: r => (b, frzL fr l) :: frzT fr r
def frzA (fr : Fram) : AV → AV
  | .c x => .c (frzC fr x)
  | .agg l => .agg (frzL fr l)
  | .tup l => .tup (frzT fr l)

def runX (C : Callee) (n : Nat) (xf : XFunc) (args : List AV) (frames : List Fram) : AV × List Fram × Bool :=
  match evC C n xf.body { env := zipArgs 0 (upAs 1 args), fr := [], up := frames, ok := args.length == xf.np } with
  | (.exit _, _) => (deadA, [], false)
  | (_, σ) => match resXs σ xf.res with
    | none => (deadA, [], false)
    | some rs => let t := frzA σ.fr (tupA rs); (downA 1 t, σ.up, σ.ok && outA 1 t)

def evF (tbl : FuncId → Option XFunc) (ext : Callee) : Nat → Callee
  | 0, _, _, _ => (deadA, [], false)
  | k + 1, f, args, frames => match tbl f with
    | some xf => runX (evF tbl ext k) k xf args frames
    | none => ext f args frames
end Go.ScE
