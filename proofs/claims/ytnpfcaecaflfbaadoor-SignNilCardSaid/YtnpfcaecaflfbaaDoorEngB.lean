/- An abstract evaluator of the model's code, part B: what each operation does to abstract values. -/
import Derived.Test.YtnpfcaecaflfbaaDoorEngA
namespace Go.Eng
open Go

structure OpOut where
  val : AV
  upd : List (Nat × Option Blk) := []
  new : List Blk := []

abbrev TO := Tree OpOut
def one (x : AV) : TO := .leaf { val := x }

/-- the byte at a place of a string -/
def sbyte (s : ByteArray) (i : Nat) : Int := ((s.data[i]?.getD 0).toNat : Int)

/-! ### types -/
def szOf (P : Program) (t : TypeId) : Option Nat := (P.info? t).map (·.size)
def bytesOfT (P : Program) (t : TypeId) : Option Nat := (P.info? t).map (·.bytes)
def aggT (P : Program) (t : TypeId) : Option Bool :=
  match P.underlying t with
  | some (.struct _) => some true
  | some (.array _ _) => some true
  | some _ => some false
  | none => none
def zeroOf (P : Program) (t : TypeId) : Option (List AV) :=
  match (P.info? t).bind (·.zero) with
  | some z => some (z.cells.toList.map .v)
  | none => none

/-- a value's cells, where each is known to be one -/
def oneC : Value → Bool
  | .agg _ => false
  | .tuple _ => false
  | _ => true
def cellOk : AV → Bool
  | .v x => oneC x
  | .any => false
  | .agg _ => false
  | .tup _ => false
  | _ => true
def cellsOf : AV → Option (List AV)
  | .agg cs => some cs
  | x => if cellOk x then some [x] else none
def wrapUp (agg : Bool) (cs : List AV) : Option AV :=
  match agg with
  | true => some (.agg cs)
  | false => match cs with
    | [c] => some c
    | _ => none

/-! ### a value that is one or the other -/
def mixV (c : Bool) : Value → Value → AV
  | .int k a, .int k' b => if k = k' then .v (.int k (bif c then a else b)) else .any
  | .bool a, .bool b => .sb (bif c then a else b)
  | .string a, .string b => .v (.string (bif c then a else b))
  | .slice none 0 0, .slice none 0 0 => .v (.slice none 0 0)
  | .pointer none, .pointer none => .v (.pointer none)
  | .map none, .map none => .v (.map none)
  | .nilFunc, .nilFunc => .v .nilFunc
  | _, _ => .any
mutual
def mixAV (c : Bool) : AV → AV → AV
  | .v x, y =>
    match y with
    | .v y => mixV c x y
    | .sb b => match x with
      | .bool a => .sb (bif c then a else b)
      | _ => .any
    | _ => .any
  | .sb a, y =>
    match y with
    | .sb b => .sb (bif c then a else b)
    | .v (.bool b) => .sb (bif c then a else b)
    | _ => .any
  | .agg a, y =>
    match y with
    | .agg b => if a.length = b.length then .agg (mixL c a b) else .any
    | _ => .any
  | .tup a, y =>
    match y with
    | .tup b => if a.length = b.length then .tup (mixL c a b) else .any
    | _ => .any
  | .ptr i o, y =>
    match y with
    | .ptr j u => if i = j ∧ o = u then .ptr i o else .any
    | _ => .any
  | .map i, y =>
    match y with
    | .map j => if i = j then .map i else .any
    | _ => .any
  | .sl sz n f, y =>
    match y with
    | .sl sz' n' f' => if sz = sz' then .sl sz (bif c then n else n') (fun k => bif c then f k else f' k) else .any
    | _ => .any
  | .hs i e n, y =>
    match y with
    | .hs j u m => if i = j then .hs i (bif c then e else u) (bif c then n else m) else .any
    | _ => .any
  | _, _ => .any
def mixL (c : Bool) : List AV → List AV → List AV
  | x :: xs, y =>
    match y with
    | y :: ys => mixAV c x y :: mixL c xs ys
    | [] => []
  | [], _ => []
end

/-- cells of a list of elements, for any number of an element -/
def chain (z : List AV) : Nat → List (List AV) → Nat → List AV
  | _, [] , _ => z
  | i, x :: xs, k => mixL (Nat.beq k i) x (chain z (i + 1) xs k)

def chunks (sz : Nat) : Nat → List AV → List (List AV)
  | 0, _ => []
  | n + 1, cs => cs.take sz :: chunks sz n (cs.drop sz)

/-! ### integers -/
def bitI (op : BinOp) (k : IntKind) (a b : Int) : Int :=
  match op with
  | .and => k.wrap ((BitVec.ofInt k.bits a &&& BitVec.ofInt k.bits b).toNat)
  | .or => k.wrap ((BitVec.ofInt k.bits a ||| BitVec.ofInt k.bits b).toNat)
  | .xor => k.wrap ((BitVec.ofInt k.bits a ^^^ BitVec.ofInt k.bits b).toNat)
  | _ => k.wrap ((BitVec.ofInt k.bits a &&& ~~~ BitVec.ofInt k.bits b).toNat)
def intE (op : BinOp) (k : IntKind) (a b : Int) : TO :=
  match op with
  | .add => one (.v (.int k (k.wrap (a + b))))
  | .sub => one (.v (.int k (k.wrap (a - b))))
  | .mul => one (.v (.int k (k.wrap (a * b))))
  | .quo => .chk (!decide (b = 0)) (one (.v (.int k (k.wrap (a.tdiv b)))))
  | .rem => .chk (!decide (b = 0)) (one (.v (.int k (a.tmod b))))
  | .and => one (.v (.int k (bitI .and k a b)))
  | .or => one (.v (.int k (bitI .or k a b)))
  | .xor => one (.v (.int k (bitI .xor k a b)))
  | .andNot => one (.v (.int k (bitI .andNot k a b)))
  | .eql => one (.sb (decide (a = b)))
  | .neq => one (.sb (!decide (a = b)))
  | .lss => one (.sb (decide (a < b)))
  | .leq => one (.sb (decide (a ≤ b)))
  | .gtr => one (.sb (decide (b < a)))
  | .geq => one (.sb (decide (b ≤ a)))
  | .shl | .shr => .fail
def shiftE (op : BinOp) (k : IntKind) (a y : Int) : TO :=
  match op with
  | .shl => .chk (decide (0 ≤ y)) (one (.v (.int k (k.wrap (a * 2 ^ (min y.toNat k.bits))))))
  | .shr => .chk (decide (0 ≤ y)) (one (.v (.int k (a.fdiv (2 ^ (min y.toNat k.bits))))))
  | _ => .fail
def strE (op : BinOp) (a b : ByteArray) : TO :=
  match op with
  | .add => .chk (decide (a.size + b.size ≤ 9223372036854775807)) (one (.v (.string (a ++ b))))
  | .eql => one (.sb (decide (a = b)))
  | .neq => one (.sb (!decide (a = b)))
  | .lss => one (.sb (Op.bytesLess a.data.toList b.data.toList))
  | .leq => one (.sb (Op.bytesLess a.data.toList b.data.toList || decide (a = b)))
  | .gtr => one (.sb (!(Op.bytesLess a.data.toList b.data.toList || decide (a = b))))
  | .geq => one (.sb (!Op.bytesLess a.data.toList b.data.toList))
  | _ => .fail
def isShift : BinOp → Bool
  | .shl | .shr => true
  | _ => false

/-! ### equality -/
/-- the kinds of a plain type's cells, in their order -/
inductive SK where
  | int | str | bool
def cellEq : SK → AV → AV → Option Bool
  | .int, .v (.int k a), .v (.int k' b) => if k = k' then some (decide (a = b)) else none
  | .str, .v (.string a), .v (.string b) => some (decide (a = b))
  | .bool, .v (.bool a), .v (.bool b) => some (a == b)
  | .bool, .sb a, .v (.bool b) => some (a == b)
  | .bool, .v (.bool a), .sb b => some (a == b)
  | .bool, .sb a, .sb b => some (a == b)
  | _, _, _ => none
def cellsEq : List SK → List AV → List AV → Option Bool
  | [], [], [] => some true
  | k :: ks, x :: xs, y :: ys =>
    match ks with
    | [] => (match xs, ys with
      | [], [] => cellEq k x y
      | _, _ => none)
    | ks => match cellEq k x y, cellsEq ks xs ys with
      | some a, some b => some (a && b)
      | _, _ => none
  | _, _, _ => none
def kindsFs (P : Program) (K : TypeId → Option (List SK)) : Nat → List Field → Option (List SK)
  | _, [] => some []
  | off, f :: fs =>
    if f.name ≠ "_" ∧ f.offset = off then
      match K f.type with
      | some ks => if szOf P f.type = some ks.length then
          match kindsFs P K (off + ks.length) fs with
          | some r => some (ks ++ r)
          | none => none
        else none
      | none => none
    else none
/-- a type all of whose cells are integers, strings or bools that are compared one by one -/
def kindsT (P : Program) : Nat → TypeId → Option (List SK)
  | 0, _ => none
  | d + 1, t =>
    match P.underlying t with
    | some (.int _) => some [.int]
    | some .string => some [.str]
    | some .bool => some [.bool]
    | some (.struct fs) => if P.stoodInHeld t then none else kindsFs P (kindsT P d) 0 fs.toList
    | _ => none
def isPtr : AV → Bool
  | .ptr _ _ => true
  | .ap _ => true
  | .eptr _ _ _ => true
  | .pp _ => true
  | .pa _ _ _ => true
  | _ => false
def boolOf : AV → Option Bool
  | .sb b => some b
  | .v (.bool b) => some b
  | _ => none
def eqE (P : Program) (t : TypeId) (x y : AV) : Option AV :=
  match P.underlying t with
  | some .bool =>
    match boolOf x, boolOf y with
    | some a, some b => some (.sb (a == b))
    | _, _ => none
  | some (.pointer _) =>
    match y with
    | .v (.pointer none) =>
      match x with
      | .v (.pointer none) => some (.v (.bool true))
      | x => if isPtr x then some (.v (.bool false)) else none
    | _ => none
  | some (.slice _) =>
    match x, y with
    | .v (.slice none _ _), .v (.slice none _ _) => some (.v (.bool true))
    | .hs _ _ (_ + 1), .v (.slice none _ _) => some (.v (.bool false))
    | .sl _ _ _, .v (.slice none _ _) => some (.v (.bool false))
    | _, _ => none
  | some (.map _ _) =>
    match x, y with
    | .map _, .v (.map none) => some (.v (.bool false))
    | .v (.map none), .v (.map none) => some (.v (.bool true))
    | _, _ => none
  | some (.func _ _ _) =>
    match x, y with
    | .fn _ _ _, .v .nilFunc => some (.v (.bool false))
    | .v .nilFunc, .v .nilFunc => some (.v (.bool true))
    | _, _ => none
  | some (.struct _) =>
    match x, y with
    | .agg xs, .agg ys =>
      match kindsT P 20 t with
      | some ks => match cellsEq ks xs ys with
        | some b => some (.sb b)
        | none => none
      | none => none
    | _, _ => none
  | _ => none
def notE : AV → Option AV
  | .sb b => some (.sb (!b))
  | .v (.bool b) => some (.v (.bool (!b)))
  | _ => none

def binE (P : Program) (op : BinOp) (t : TypeId) (x y : AV) : TO :=
  match x, y with
  | .v (.int k a), .v (.int k' b) =>
    match isShift op with
    | true => shiftE op k a b
    | false => if k = k' then intE op k a b else .fail
  | .v (.string a), .v (.string b) => strE op a b
  | x, y =>
    match op with
    | .eql => .map (fun a => { val := a }) (.ofOption (eqE P t x y))
    | .neq => .map (fun a => { val := a }) (.ofOption ((eqE P t x y).bind notE))
    | _ => .fail

def unE (op : UnOp) (x : AV) : TO :=
  match op, x with
  | .not, x => .map (fun a => { val := a }) (.ofOption (notE x))
  | .neg, .v (.int k n) => one (.v (.int k (k.wrap (0 - n))))
  | .xor, .v (.int k n) => one (.v (.int k (bitI .xor k (if k.signed then -1 else k.max) n)))
  | _, _ => .fail

/-! ### memory -/
def allocE (P : Program) (nb : Nat) (t : TypeId) (cells : List AV) : TO :=
  match P.underlying t with
  | some (.array n elem) =>
    match szOf P elem with
    | some sz => if cells.all AV.free && cells.all cellOk && n * sz == cells.length && (cells.take sz).length == sz then .leaf { val := .ap nb, new := [.arr sz n (chain (cells.take sz) 0 (chunks sz n cells))] } else .fail
    | none => .fail
  | some _ => .leaf { val := .ptr nb 0, new := [.row cells] }
  | none => .fail

/-- cells of all elements of a row whose length is a literal -/
def flatE (f : Nat → List AV) (n : Nat) : List AV := (List.range n).flatMap f

def cellsAt (get : Get) (m : Nat) : AV → Option (List AV)
  | .ptr i o =>
    match get i with
    | some (.row cs) => if decide (o + m ≤ cs.length) then some ((cs.drop o).take m) else none
    | _ => none
  | .eptr i e o =>
    match get i with
    | some (.arr _ _ f) => if decide (o + m ≤ (f e).length) then some (((f e).drop o).take m) else none
    | _ => none
  | .pp cs => if decide (m ≤ cs.length) then some (cs.take m) else none
  | _ => none
def loadE (P : Program) (get : Get) (t : TypeId) (p : AV) : Option AV :=
  match szOf P t, aggT P t with
  | some m, some a => if a || m == 1 then (cellsAt get m p).bind (wrapUp a) else none
  | _, _ => none
def storeE (P : Program) (get : Get) (t : TypeId) (p x : AV) : Option (Nat × Option Blk) :=
  match szOf P t, cellsOf x with
  | some m, some vs =>
    if vs.length = m && vs.all cellOk then
      match p with
      | .ptr i o =>
        match get i with
        | some (.row cs) => if decide (o + m ≤ cs.length) then some (i, some (.row (cs.take o ++ vs ++ cs.drop (o + m)))) else none
        | _ => none
      | .eptr i e o =>
        match get i with
        | some (.arr sz n f) => if decide (o + m ≤ sz) && vs.all AV.free then
            some (i, some (.arr sz n fun k => mixL (Nat.beq k e) ((f e).take o ++ vs ++ (f e).drop (o + m)) (f k))) else none
        | _ => none
      | .ap i =>
        match get i with
        | some (.arr sz n _) => if decide (n * sz = m) && vs.all AV.free && decide ((vs.take sz).length = sz) then some (i, some (.arr sz n (chain (vs.take sz) 0 (chunks sz n vs)))) else none
        | _ => none
      | _ => none
    else none
  | _, _ => none

def fieldOf (P : Program) (s : TypeId) (f : Nat) : Option Field :=
  match P.underlying s with
  | some (.struct fields) => fields[f]?
  | _ => none
def moveP (off : Nat) : AV → Option AV
  | .ptr i o => some (.ptr i (o + off))
  | .eptr i e o => some (.eptr i e (o + off))
  | .pp cs => some (.pp (cs.drop off))
  | _ => none
def partE (P : Program) (t : TypeId) (cs : List AV) (off : Nat) : Option AV :=
  match szOf P t, aggT P t with
  | some m, some true => if decide (off + m ≤ cs.length) then some (.agg ((cs.drop off).take m)) else none
  | some _, some false => cs[off]?
  | _, _ => none

def elemOfT (P : Program) (t : TypeId) : Option TypeId :=
  match P.underlying t with
  | some (.slice e) => some e
  | _ => none
def arrOfT (P : Program) (t : TypeId) : Option (Nat × TypeId) :=
  match P.underlying t with
  | some (.array n e) => some (n, e)
  | _ => none

def indexAddrE (P : Program) (get : Get) (t : TypeId) (x ix : AV) : TO :=
  match ix with
  | .v (.int _ i) =>
    match elemOfT P t with
    | some elem =>
      match x with
      | .sl sz n f => if szOf P elem = some sz then .chk (decide (0 ≤ i) && decide (i < (n : Int))) (one (.pp (f i.toNat))) else .fail
      | .hs id e n =>
        match get id with
        | some (.arr sz _ _) => if szOf P elem = some sz then .chk (decide (0 ≤ i) && decide (i < (n : Int))) (one (.eptr id (e + i.toNat) 0)) else .fail
        | _ => .fail
      | _ => .fail
    | none =>
      match arrOfT P t with
      | some (len, elem) =>
        match szOf P elem with
        | some sz' =>
          match x with
          | .ap id =>
            match get id with
            | some (.arr sz n _) => if sz = sz' ∧ n = len then .chk (decide (0 ≤ i) && decide (i < (n : Int))) (one (.eptr id i.toNat 0)) else .fail
            | _ => .fail
          | .pa sz n f => if sz = sz' ∧ n = len then .chk (decide (0 ≤ i) && decide (i < (n : Int))) (one (.pp (f i.toNat))) else .fail
          | .ptr id o => .chk (decide (0 ≤ i) && decide (i < (len : Int))) (one (.ptr id (o + i.toNat * sz')))
          | .pp cs => .chk (decide (0 ≤ i) && decide (i < (len : Int))) (one (.pp (cs.drop (i.toNat * sz'))))
          | _ => .fail
        | none => .fail
      | none => .fail
  | _ => .fail

def indexE (P : Program) (t : TypeId) (x ix : AV) : TO :=
  match ix with
  | .v (.int _ i) =>
    match x with
    | .v (.string s) =>
      match P.underlying t with
      | some .string => .chk (decide (0 ≤ i) && decide (i < (s.size : Int))) (one (.v (.int .u8 (sbyte s i.toNat))))
      | _ => .fail
    | .agg cs =>
      match arrOfT P t with
      | some (len, elem) =>
        match szOf P elem, aggT P elem with
        | some sz, some a =>
          if len * sz = cs.length then
            .chk (decide (0 ≤ i) && decide (i < (len : Int))) (.map (fun x => { val := x }) (.ofOption (wrapUp a (chain (cs.take sz) 0 (chunks sz len cs) i.toNat))))
          else .fail
        | _, _ => .fail
      | none => .fail
    | _ => .fail
  | _ => .fail

/-! ### slices -/
def nilSlice : AV := .v (.slice none 0 0)
def bound (d : Nat) : Option AV → Option Int
  | none => some (d : Int)
  | some (.v (.int _ i)) => some i
  | _ => none
/-- 'x[lo:hi]' over 'n' elements (of 'm' that may be reached): the two bounds, and the checks -/
def sliceE (P : Program) (ip : Bool) (nb : Nat) (get : Get) (t : TypeId) (x : AV) (lo hi mx : Option AV) : TO :=
  match mx with
  | some (.v (.int _ m)) =>
    match ip with
    | false =>
      match m with
      | 0 =>
        match bound 0 hi, bound 0 lo, elemOfT P t with
        | some 0, some 0, some elem =>
          match hi, szOf P elem, zeroOf P elem with
          | some _, some sz, some z =>
            if z.length ≠ sz then .fail else
            match x with
            | .sl _ _ _ => .leaf { val := .hs nb 0 0, new := [.arr sz 0 fun _ => z] }
            | .hs _ _ _ => .leaf { val := .hs nb 0 0, new := [.arr sz 0 fun _ => z] }
            | .v (.slice none 0 0) => one nilSlice
            | _ => .fail
          | _, _, _ => .fail
        | _, _, _ => .fail
      | _ => .fail
    | true =>
      -- the slice itself is not used: that the bounds hold is all
      match x with
      | .hs id e n =>
        match get id, bound 0 lo, bound n hi, elemOfT P t with
        | some (.arr sz _ _), some l, some h, some elem =>
          if szOf P elem = some sz ∧ hi.isSome = true then .chk (decide (0 ≤ l) && decide (l ≤ h) && decide (h ≤ m) && decide (m ≤ (n : Int))) (one .any) else .fail
        | _, _, _, _ => .fail
      | _ => .fail
  | some _ => .fail
  | none =>
    match x with
    | .v (.string s) =>
      match P.underlying t with
      | some .string =>
        match bound 0 lo, bound s.size hi with
        | some l, some h => .chk (decide (0 ≤ l) && decide (l ≤ h) && decide (h ≤ (s.size : Int))) (one (.v (.string (s.extract l.toNat h.toNat))))
        | _, _ => .fail
      | _ => .fail
    | .v (.slice none 0 0) =>
      match bound 0 lo, bound 0 hi, elemOfT P t with
      | some l, some h, some elem => if (szOf P elem).isSome then .chk (decide (0 ≤ l) && decide (l ≤ h) && decide (h ≤ 0)) (one nilSlice) else .fail
      | _, _, _ => .fail
    | .sl sz n f =>
      match bound 0 lo, bound n hi, elemOfT P t with
      | some l, some h, some elem =>
        if szOf P elem = some sz then .chk (decide (0 ≤ l) && decide (l ≤ h) && decide (h ≤ (n : Int))) (one (.sl sz (h.toNat - l.toNat) fun k => f (l.toNat + k))) else .fail
      | _, _, _ => .fail
    | .hs id e n =>
      match get id, bound 0 lo, bound n hi, elemOfT P t with
      | some (.arr sz N _), some l, some h, some elem =>
        if szOf P elem = some sz then
          .chk (decide (0 ≤ l) && decide (l ≤ h) && (bif ip then decide (e + h.toNat ≤ N) else decide (h ≤ (n : Int)))) (one (.hs id (e + l.toNat) (h.toNat - l.toNat)))
        else .fail
      | _, _, _, _ => .fail
    | .ap id =>
      match get id, arrOfT P t with
      | some (.arr sz n _), some (len, elem) =>
        match bound 0 lo, bound len hi with
        | some l, some h =>
          if szOf P elem = some sz ∧ n = len then .chk (decide (0 ≤ l) && decide (l ≤ h) && decide (h ≤ (n : Int))) (one (.hs id l.toNat (h.toNat - l.toNat))) else .fail
        | _, _ => .fail
      | _, _ => .fail
    | _ => .fail

/-- what is appended, copied or turned into a text: how many elements, and which -/
def source (get : Get) : AV → Option (Nat × (Nat → List AV))
  | .v (.string s) => some (s.size, fun j => [.v (.int .u8 (sbyte s j))])
  | .sl _ n f => some (n, f)
  | .hs id e n =>
    match get id with
    | some (.arr _ _ f) => some (n, fun j => f (e + j))
    | _ => none
  | _ => none
def srcSz (get : Get) : AV → Option Nat
  | .v (.string _) => some 1
  | .sl sz _ _ => some sz
  | .hs id _ _ =>
    match get id with
    | some (.arr sz _ _) => some sz
    | _ => none
  | _ => none
def roomOk (bytes n : Nat) : Bool := decide ((2 * n + 512) * (bytes + 1) ≤ 281474976710656)

def zeroLenOk (P : Program) (t : TypeId) (sz : Nat) : Bool :=
  match zeroOf P t with
  | some z => Nat.beq z.length sz
  | none => false
def isIntD : TypeDesc → Bool
  | .int _ => true
  | _ => false
def isNilS : AV → Bool
  | .v (.slice none 0 0) => true
  | _ => false
def sameBlk (id : Nat) : AV → Bool
  | .hs j _ _ => Nat.beq j id
  | _ => false
def appendC (ip : Bool) (nb : Nat) (get : Get) (sz bytes : Nat) (s x : AV) : TO :=
  match isNilS x with
  | true =>
    match isNilS s with
    | true => one nilSlice
    | false => match s with
      | .hs id e n => one (.hs id e n)
      | _ => .fail
  | false =>
    match source get x with
    | some (k, g) =>
      if srcSz get x = some sz then
        match isNilS s with
        | true => .chk (roomOk bytes k) (.leaf { val := .hs nb 0 k, new := [.arr sz k g] })
        | false =>
          match s with
          | .hs id e n =>
            match get id with
            | some (.arr sz' N f) =>
              if sz' = sz then
                match ip with
                | true =>
                  if sameBlk id x then .chk (decide (e + n + k ≤ N)) (.leaf { val := .hs id e (n + k), upd := [(id, some (.arr sz N fun j => mixL (decide (e + n ≤ j) && decide (j < e + n + k)) (g (j - (e + n))) (f j)))] }) else .fail
                | false => .chk (roomOk bytes (n + k)) (.leaf { val := .hs nb 0 (n + k), upd := [(id, none)], new := [.arr sz (n + k) fun j => mixL (decide (j < n)) (f (e + j)) (g (j - n))] })
              else .fail
            | _ => .fail
          | _ => .fail
      else .fail
    | none => .fail
def appendE (P : Program) (ip : Bool) (nb : Nat) (get : Get) (ts : Array TypeId) (s x : AV) : TO :=
  match ts[0]?, ts[1]? with
  | some t, some tx =>
    match elemOfT P t with
    | some elem =>
      match szOf P elem, bytesOfT P elem, P.underlying tx with
      | some sz, some bytes, some tu =>
        match isIntD tu || !zeroLenOk P elem sz with
        | true => .fail
        | false => appendC ip nb get sz bytes s x
      | _, _, _ => .fail
    | none => .fail
  | _, _ => .fail

def copyE (P : Program) (get : Get) (ts : Array TypeId) (d x : AV) : TO :=
  match ts[0]? with
  | some t =>
    match elemOfT P t with
    | some elem =>
      match szOf P elem, source get x, d with
      | some sz, some (k, g), .hs id e n =>
        match get id with
        | some (.arr sz' N f) =>
          if sz' = sz ∧ srcSz get x = some sz then
            .leaf { val := .v (.int .i64 (Nat.min k n : Nat)), upd := [(id, some (.arr sz N fun j => mixL (decide (e ≤ j) && decide (j < e + Nat.min k n)) (g (j - e)) (f j)))] }
          else .fail
        | _ => .fail
      | _, _, _ => .fail
    | none => .fail
  | none => .fail

def clearE (P : Program) (get : Get) (ts : Array TypeId) (d : AV) : TO :=
  match ts[0]? with
  | some t =>
    match elemOfT P t with
    | some elem =>
      match zeroOf P elem, szOf P elem, d with
      | some z, some sz, .hs id e n =>
        match get id with
        | some (.arr sz' N f) =>
          if sz' = sz ∧ z.length = sz ∧ z.all cellOk = true then
            .leaf { val := .any, upd := [(id, some (.arr sz N fun j => mixL (decide (e ≤ j) && decide (j < e + n)) z (f j)))] }
          else .fail
        | _ => .fail
      | _, _, _ => .fail
    | none => .fail
  | none => .fail

def lenE (P : Program) (get : Get) (ts : Array TypeId) (x : AV) : TO :=
  match ts[0]? with
  | some t =>
    match P.underlying t, x with
    | some .string, .v (.string s) => one (.v (.int .i64 (s.size : Int)))
    | some (.array n _), _ => one (.v (.int .i64 (n : Int)))
    | some (.slice _), .v (.slice none 0 0) => one (.v (.int .i64 0))
    | some (.slice _), .sl _ n _ => one (.v (.int .i64 (n : Int)))
    | some (.slice _), .hs _ _ n => one (.v (.int .i64 (n : Int)))
    | some (.map _ _), .v (.map none) => one (.v (.int .i64 0))
    | some (.map _ _), .map i =>
      match get i with
      | some (.mp _ _ _ n _ _) => one (.v (.int .i64 (n : Int)))
      | _ => .fail
    | _, _ => .fail
  | none => .fail

def minE : AV → List AV → Option AV
  | x, [] => match x with
    | .v (.int k a) => some (.v (.int k a))
    | _ => none
  | x, y :: rest => match x, y with
    | .v (.int k a), .v (.int _ b) => minE (.v (.int k (if b < a then b else a))) rest
    | _, _ => none
def maxE : AV → List AV → Option AV
  | x, [] => match x with
    | .v (.int k a) => some (.v (.int k a))
    | _ => none
  | x, y :: rest => match x, y with
    | .v (.int k a), .v (.int _ b) => maxE (.v (.int k (if b > a then b else a))) rest
    | _, _ => none

def makeSliceE (P : Program) (nb : Nat) (t : TypeId) (l c : AV) : TO :=
  match elemOfT P t, l, c with
  | some elem, .v (.int _ l), .v (.int _ c) =>
    match szOf P elem, bytesOfT P elem, zeroOf P elem with
    | some sz, some bytes, some z =>
      if z.length = sz ∧ z.all cellOk = true then
        .chk (decide (0 ≤ l) && decide (l ≤ c) && roomOk bytes c.toNat) (.leaf { val := .hs nb 0 l.toNat, new := [.arr sz l.toNat fun _ => z] })
      else .fail
    | _, _, _ => .fail
  | _, _, _ => .fail

/-! ### conversions -/
def byteIn : List AV → UInt8
  | [.v (.int .u8 n)] => UInt8.ofNat n.toNat
  | _ => 0
def isByte : List AV → Bool
  | [.v (.int .u8 _)] => true
  | _ => false
def textOf (n : Nat) (f : Nat → List AV) : ByteArray := ⟨((List.range n).map fun j => byteIn (f j)).toArray⟩
def allBytes (n : Nat) (f : Nat → List AV) : Bool := (List.range n).all fun j => isByte (f j)
inductive CK where
  | int (k : IntKind) | str | bytes (e : TypeId) | other
def convKind (P : Program) (t : TypeId) : CK :=
  match P.underlying t with
  | some (.int k) => .int k
  | some .string => .str
  | some (.slice e) => match P.underlying e with
    | some (.int .u8) => .bytes e
    | _ => .other
  | _ => .other
def isSlAV : AV → Bool
  | .sl _ _ _ => true
  | .hs _ _ _ => true
  | _ => false
def convE (P : Program) (nb : Nat) (get : Get) (s d : TypeId) (x : AV) : TO :=
  match convKind P s, convKind P d, x with
  | .int _, .int k, .v (.int _ n) => one (.v (.int k (k.wrap n)))
  | .int _, .str, .v (.int _ n) => one (.v (.string (Utf8.encode n)))
  | .str, .str, .v (.string s) => one (.v (.string s))
  | .str, .bytes _, .v (.string s) => .leaf { val := .hs nb 0 s.size, new := [.arr 1 s.size fun j => [.v (.int .u8 (sbyte s j))]] }
  | .bytes _, .str, .v (.slice none 0 0) => one (.v (.string ⟨#[]⟩))
  | .bytes _, .str, x =>
    match source get x with
    | some (n, f) => if srcSz get x = some 1 ∧ isSlAV x = true then .chk (allBytes n f) (one (.v (.string (textOf n f)))) else .fail
    | none => .fail
  | _, _, _ => .fail

/-! ### making values out of parts -/
def fillE (place : Nat → Option (Nat × Nat)) (cells : List AV) : List (Nat × AV) → Option (List AV)
  | [] => some cells
  | (i, v) :: rest =>
    match place i, cellsOf v with
    | some (off, size), some vs => if vs.length = size ∧ off + size ≤ cells.length then fillE place (cells.take off ++ vs ++ cells.drop (off + size)) rest else none
    | _, _ => none
def fieldPlaces (P : Program) : List Field → Option (List (Nat × Nat))
  | [] => some []
  | f :: fs => match szOf P f.type, fieldPlaces P fs with
    | some s, some r => some ((f.offset, s) :: r)
    | _, _ => none
def buildE (P : Program) (t : TypeId) (parts : List (Nat × AV)) : Option AV :=
  match zeroOf P t, P.underlying t with
  | some z, some (.struct fs) => (fieldPlaces P fs.toList).bind fun ps => (fillE (fun i => ps[i]?) z parts).map .agg
  | some z, some (.array _ e) => (szOf P e).bind fun sz => (fillE (fun i => some (i * sz, sz)) z parts).map .agg
  | _, _ => none
def repCells (n : Nat) (z : List AV) : List AV := (List.range n).flatMap fun _ => z
def buildSliceE (P : Program) (nb : Nat) (t : TypeId) (len : Nat) (parts : List (Nat × AV)) : TO :=
  match elemOfT P t with
  | some elem =>
    match szOf P elem, zeroOf P elem with
    | some sz, some z =>
      if z.length = sz ∧ len * sz ≤ 16777216 then
        match fillE (fun i => some (i * sz, sz)) (repCells len z) parts with
        | some cs => if cs.all AV.free && cs.all cellOk && cs.length == len * sz then .leaf { val := .hs nb 0 len, new := [.arr sz len (chain z 0 (chunks sz len cs))] } else .fail
        | none => .fail
      else .fail
    | _, _ => .fail
  | none => .fail

/-! ### maps -/
def celsFs (P : Program) (K : TypeId → Option (List Cel)) : List Field → Option (List Cel)
  | [] => some []
  | f :: fs => match K f.type, celsFs P K fs with
    | some a, some b => some (a ++ b)
    | _, _ => none
/-- the kinds of a key's cells -/
def celsT (P : Program) : Nat → TypeId → Option (List Cel)
  | 0, _ => none
  | d + 1, t =>
    match P.underlying t with
    | some (.int k) => some [.int k]
    | some .string => some [.str]
    | some .bool => some [.bool]
    | some (.struct fs) => celsFs P (celsT P d) fs.toList
    | _ => none
def sameKind : Cel → SK → Bool
  | .int _, .int => true
  | .str, .str => true
  | .bool, .bool => true
  | _, _ => false
def sameKinds : List Cel → List SK → Bool
  | [], [] => true
  | c :: cs, k :: ks => sameKind c k && sameKinds cs ks
  | _, _ => false
def mapT (P : Program) (t : TypeId) : Option (TypeId × TypeId) :=
  match P.underlying t with
  | some (.map k v) => some (k, v)
  | _ => none
/-- what a map answers where nothing is -/
def zeroV (P : Program) (t : TypeId) (va : Bool) : Option (List AV) :=
  match (P.info? t).bind (·.zero) with
  | some (.agg ys) => match va with
    | true => some (ys.toList.map .v)
    | false => none
  | some x => match va with
    | true => none
    | false => some [.v x]
  | none => none
/-- a new map: empty -/
def makeMapE (P : Program) (nb : Nat) (t : TypeId) (reserve : Option AV) : TO :=
  match reserve with
  | none => match mapT P t with
    | some (kt, vt) => match celsT P 20 kt, aggT P kt, aggT P vt with
      | some cels, some ka, some va => match zeroV P vt va with
        | some z => .leaf { val := .map nb, new := [.mp cels ka va 0 (fun _ => false) (fun _ => z)] }
        | none => .fail
      | _, _, _ => .fail
    | none => .fail
  | some _ => .fail
/-- a key's cells -/
def kcOf : List Cel → List AV → Option (List KC)
  | [], [] => some []
  | .int k :: cs, .v (.int k' n) :: xs => if k' = k then (kcOf cs xs).map fun r => .i n :: r else none
  | .str :: cs, .v (.string t) :: xs => (kcOf cs xs).map fun r => .s t :: r
  | .bool :: cs, .v (.bool c) :: xs => (kcOf cs xs).map fun r => .b c :: r
  | .bool :: cs, .sb c :: xs => (kcOf cs xs).map fun r => .b c :: r
  | _, _ => none
def keyIn (ka : Bool) (cels : List Cel) (x : AV) : Option (List KC) :=
  match ka with
  | true => match x with
    | .agg cs => kcOf cels cs
    | _ => none
  | false => kcOf cels [x]
/-- the key's type is as the map's block has it -/
def keyFits (P : Program) (kt : TypeId) (cels : List Cel) (ka : Bool) : Bool :=
  match kindsT P 20 kt, aggT P kt with
  | some ks, some a => sameKinds cels ks && a == ka
  | _, _ => false
def mapAns (va ok : Bool) (cs : List AV) (there : Bool) : TO :=
  match wrapUp va cs with
  | some x => match ok with
    | true => one (.tup [x, .v (.bool there)])
    | false => one x
  | none => .fail
def lookupE (P : Program) (get : Get) (t : TypeId) (x ix : AV) (ok : Bool) : TO :=
  match mapT P t with
  | some (kt, vt) =>
    match aggT P vt with
    | some va =>
     match zeroV P vt va with
     | some z =>
      match x with
      | .map i => match get i with
        | some (.mp cels ka va' _ has val) => match keyFits P kt cels ka && va == va' with
          | true => match keyIn ka cels ix with
            | some k => .br (has k) (mapAns va ok (val k) true) (mapAns va ok z false)
            | none => .fail
          | false => .fail
        | _ => .fail
      | .v (.map none) => match celsT P 20 kt, aggT P kt with
        | some cels, some ka => match keyFits P kt cels ka, keyIn ka cels ix with
          | true, some _ => mapAns va ok z false
          | _, _ => .fail
        | _, _ => .fail
      | _ => .fail
     | none => .fail
    | none => .fail
  | none => .fail
def mixMV (c : Bool) (x y : AV) : AV := match mixAV c x y with
  | .any => bif c then x else y
  | z => z
def mixML (c : Bool) : List AV → List AV → List AV
  | x :: xs, y :: ys => mixMV c x y :: mixML c xs ys
  | _, _ => []
/-- cells that are these or those -/
def eitherL (c : Bool) (xs ys : List AV) : List AV := match Nat.beq xs.length ys.length with
  | true => mixML c xs ys
  | false => bif c then xs else ys
/-- a value's cells, as a map holds them -/
def cellsFor (va : Bool) (x : AV) : Option (List AV) :=
  match va with
  | true => match x with
    | .agg cs => if cs.all AV.free then some cs else none
    | _ => none
  | false => if x.free && cellOk x then some [x] else none
def mapUpdE (P : Program) (get : Get) (t : TypeId) (m k x : AV) : TO :=
  match mapT P t with
  | some (kt, vt) =>
    match m with
    | .map i => match get i with
      | some (.mp cels ka va n has val) => match keyFits P kt cels ka && (ka || Nat.beq cels.length 1), keyIn ka cels k, cellsFor va x with
        | true, some q, some cs => .leaf { val := .any, upd := [(i, some (.mp cels ka va (bif has q then n else n + 1) (fun p => eqK p q || has p) (fun p => eitherL (eqK p q) cs (val p))))] }
        | _, _, _ => .fail
      | _ => .fail
    | _ => .fail
  | none => .fail
/-! ### the runes of a text -/
def rangeE (P : Program) (nb : Nat) (t : TypeId) (x : AV) : TO :=
  match P.underlying t, x with
  | some .string, .v (.string s) => .leaf { val := .its nb, new := [.sit s 0] }
  | _, _ => .fail
def nextE (get : Get) (it : AV) (str : Bool) : TO :=
  match str, it with
  | true, .its i =>
    match get i with
    | some (.sit s pos) => .br (decide (pos < s.size)) (.leaf { val := .tup [.v (.bool true), .v (.int .i64 (pos : Int)), .v (.int .i32 (Utf8.decode s pos).1)], upd := [(i, some (.sit s (pos + (Utf8.decode s pos).2)))] }) (one (.tup [.v (.bool false)]))
    | _ => .fail
  | _, _ => .fail
end Go.Eng
