/- An abstract evaluator of the model's code, part C: contracts, operations, regions, code. -/
import Derived.Test.YtnpfcaecaflfbaaDoorEngB
namespace Go.Eng
open Go

abbrev Heap := List (Option Blk)
def getH (H : Heap) : Get := fun i => match H[i]? with
  | some b => b
  | none => none

/-- what a call gives: the value, what becomes of the blocks that were handed in, the new blocks -/
structure Res where
  val : AV
  upd : List (Option (Option Blk)) := []
  new : List Blk := []

/-- the heap behind a call whose blocks were 'Hin' -/
def outOf : List Blk → List (Option (Option Blk)) → Heap
  | [], _ => []
  | b :: bs, [] => some b :: outOf bs []
  | b :: bs, none :: us => some b :: outOf bs us
  | _ :: bs, some x :: us => x :: outOf bs us
def Res.heap (Hin : List Blk) (r : Res) : Heap := outOf Hin r.upd ++ r.new.map some

def VL (σ : Store) (φ : Places) (xs : List AV) (ys : List Value) : Prop :=
  xs.length = ys.length ∧ ∀ (j : Nat) (c : AV) (y : Value), xs[j]? = some c → ys[j]? = some y → V σ φ c y

def Globals (Γ : Nat → AV) (σ : Store) : Prop := ∀ g, V0 σ (Γ g) (.pointer (some ⟨g, 0, none⟩))

def Contract (P : Program) (Γ : Nat → AV) (f : FuncId) (args : List AV) (Hin : List Blk) (r : Res) : Prop :=
  ∀ (σ : Store) (φ : Places) (w : World) (vals : Array Value), Globals Γ σ → VL σ φ args vals.toList → (∀ k, Hin.length ≤ k → φ k = none) →
    R ⟨w, σ, fun b => ∃ k L, φ k = some L ∧ L.virt = false ∧ L.b = b⟩ σ φ (getH (Hin.map some)) w →
    Calls P f vals w fun e w' => ∃ σ' φ' v, e = .returned v ∧ V σ' φ' r.val v ∧
      R ⟨w, σ, fun b => ∃ k L, φ k = some L ∧ L.virt = false ∧ L.b = b⟩ σ' φ' (getH (r.heap Hin)) w' ∧ (∀ k, k < Hin.length → φ' k = φ k) ∧
      (∀ k, (r.heap Hin).length ≤ k → φ' k = none)

structure CT (P : Program) (Γ : Nat → AV) where
  f : FuncId
  spec : List AV → List Blk → Tree Res
  enters : ∀ (args : Array Value) (w : World), (callFunc f args).run P w = .ok (.enter f args) w
  ok : ∀ args Hin r, (spec args Hin).get = some r → Contract P Γ f args Hin r

/-! ### blocks that are reached -/
def blkIds : Blk → List Nat
  | .row cs => AV.idsL cs
  | _ => []
def blkRen (r : Nat → Nat) : Blk → Blk
  | .row cs => .row (AV.renL r cs)
  | b => b
def memN (i : Nat) : List Nat → Bool
  | [] => false
  | j :: l => Nat.beq i j || memN i l
/-- the numbers that are reached, each once, in the order in which they are met -/
def reach (get : Get) : Nat → List Nat → List Nat → Option (List Nat)
  | _, [], seen => some seen
  | 0, _ :: _, _ => none
  | n + 1, i :: todo, seen =>
    match memN i seen with
    | true => reach get n todo seen
    | false => match get i with
      | some b => reach get n (blkIds b ++ todo) (seen ++ [i])
      | none => none
def posIn (i : Nat) : List Nat → Nat
  | [] => 0
  | j :: l => match Nat.beq i j with
    | true => 0
    | false => posIn i l + 1
def backIn (ids : List Nat) (nb : Nat) (k : Nat) : Nat := match ids[k]? with
  | some i => i
  | none => nb + (k - ids.length)
def blocksAt (get : Get) : List Nat → Option (List Blk)
  | [] => some []
  | i :: l => match get i, blocksAt get l with
    | some b, some bs => some (b :: bs)
    | _, _ => none
def updsOf (r : Nat → Nat) : List Nat → List (Option (Option Blk)) → List (Nat × Option Blk)
  | i :: ids, u :: us => match u with
    | none => updsOf r ids us
    | some x => (i, x.map (blkRen r)) :: updsOf r ids us
  | _, _ => []

def findCT {P : Program} {Γ : Nat → AV} (f : FuncId) : List (CT P Γ) → Option (CT P Γ)
  | [] => none
  | c :: cs => match Nat.beq c.f f with
    | true => some c
    | false => findCT f cs

def callE {P : Program} {Γ : Nat → AV} (T : List (CT P Γ)) (nb : Nat) (get : Get) (f : FuncId) (args : List AV) : TO :=
  match findCT f T with
  | some c =>
    match reach get 1000 (AV.idsL args) [] with
    | some ids =>
      match blocksAt get ids with
      | some Hin =>
        (c.spec (AV.renL (fun i => posIn i ids) args) (Hin.map (blkRen fun i => posIn i ids))).bind fun r =>
          .leaf { val := r.val.ren (backIn ids nb), upd := updsOf (backIn ids nb) ids r.upd, new := r.new.map (blkRen (backIn ids nb)) }
      | none => .fail
    | none => .fail
  | none => .fail

/-! ### operations -/
def opd (Γ : Nat → AV) (fr : List AV) : Operand → AV
  | .tmp t => fr.getD t .any
  | .const v => avOf v
  | .global g => Γ g
  | .func f => .fn f [] []

def mapOpt {α β : Type} (f : α → β) : Option α → Option β
  | some a => some (f a)
  | none => none

def valT (x : Option AV) : TO := match x with
  | some a => one a
  | none => .fail

def pickE (c a b : AV) : TO :=
  match c with
  | .v (.bool true) => one a
  | .v (.bool false) => one b
  | .sb c => .br c (one a) (one b)
  | _ => .fail

def nilOk : AV → Bool
  | .ptr _ _ => true
  | .ap _ => true
  | .eptr _ _ _ => true
  | .pp _ => true
  | .pa _ _ _ => true
  | .fn _ _ _ => true
  | _ => false

def opE {P : Program} {Γ : Nat → AV} (T : List (CT P Γ)) (ip : Bool) (nb : Nat) (get : Get) (ρ : Operand → AV) (o : Op) : TO :=
  match o with
  | .move x => one (ρ x)
  | .assign x => one (ρ x)
  | .pick c a b => pickE (ρ c) (ρ a) (ρ b)
  | .alloc t => match zeroOf P t with
    | some z => allocE P nb t z
    | none => .fail
  | .box t x => match cellsOf (ρ x) with
    | some cs => allocE P nb t cs
    | none => .fail
  | .build t parts => valT (buildE P t (parts.toList.map fun q => (q.1, ρ q.2)))
  | .buildSlice t len parts => buildSliceE P nb t len (parts.toList.map fun q => (q.1, ρ q.2))
  | .load t a => valT (loadE P get t (ρ a))
  | .store t a x => match storeE P get t (ρ a) (ρ x) with
    | some u => .leaf { val := .any, upd := [u] }
    | none => .fail
  | .nilCheck x => if nilOk (ρ x) then one (ρ x) else .fail
  | .binOp op t x y _ => binE P op t (ρ x) (ρ y)
  | .unOp op _ x => unE op (ρ x)
  | .convert s d x => convE P nb get s d (ρ x)
  | .makeFunc (.func f) first cap => one (.fn f (first.toList.map ρ) (cap.toList.map ρ))
  | .makeSlice t l c => makeSliceE P nb t (ρ l) (ρ c)
  | .slice t x lo hi mx => sliceE P ip nb get t (ρ x) (mapOpt ρ lo) (mapOpt ρ hi) (mapOpt ρ mx)
  | .fieldAddr s x f => match fieldOf P s f with
    | some fd => match szOf P fd.type with
      | some (_ + 1) => valT (moveP fd.offset (ρ x))
      | _ => .fail
    | none => .fail
  | .field s x f => match fieldOf P s f, ρ x with
    | some fd, .agg cs => valT (partE P fd.type cs fd.offset)
    | _, _ => .fail
  | .indexAddr t x ix => indexAddrE P get t (ρ x) (ρ ix)
  | .index t x ix => indexE P t (ρ x) (ρ ix)
  | .extract x ix => match ρ x with
    | .tup vs => valT vs[ix]?
    | _ => .fail
  | .call c =>
    match c.callee with
    | .builtin b =>
      match b, c.args.toList.map ρ with
      | .append, [s, x] => appendE P ip nb get c.argTypes s x
      | .copy, [d, x] => copyE P get c.argTypes d x
      | .len, [x] => lenE P get c.argTypes x
      | .clear, [x] => clearE P get c.argTypes x
      | .min, x :: xs => valT (minE x xs)
      | .max, x :: xs => valT (maxE x xs)
      | _, _ => .fail
    | .value f =>
      match ρ f with
      | .fn fid first cap => callE T nb get fid (first ++ c.args.toList.map ρ ++ cap)
      | _ => .fail
    | .invoke _ _ => .fail
  | .range t x => rangeE P nb t (ρ x)
  | .next it str => nextE get (ρ it) str
  | .makeMap t r => makeMapE P nb t (mapOpt ρ r)
  | .lookup t x ix ok => lookupE P get t (ρ x) (ρ ix) ok
  | .mapUpdate t m k x => mapUpdE P get t (ρ m) (ρ k) (ρ x)
  | _ => .fail

/-! ### regions -/
structure St where
  fr : List AV
  H : Heap
  eff : Bool

def putF (fr : List AV) (d : Option Tmp) (x : AV) : List AV :=
  match d with
  | some t => fr.set t x
  | none => fr
def setH (H : Heap) (upd : List (Nat × Option Blk)) : Heap :=
  match upd with
  | [] => H
  | (i, b) :: us => setH (H.set i b) us
def effOf (o : OpOut) : Bool :=
  match o.upd, o.new with
  | [], [] => false
  | _, _ => true
def doneE (s : St) (o : Oper) (out : OpOut) : St :=
  ⟨putF s.fr o.dst out.val, setH s.H out.upd ++ out.new.map some, s.eff || effOf out⟩

def stepE {P : Program} {Γ : Nat → AV} (T : List (CT P Γ)) (ip : Bool) (ops : Array Oper) (o : Oper) (s : St) : Tree St :=
  match o.guard with
  | none => (opE T ip s.H.length (getH s.H) (opd Γ s.fr) o.op).bind fun out => .leaf (doneE s o out)
  | some (j, want) =>
    match ops[j]? with
    | some oj =>
      match oj.dst with
      | some t =>
        match s.fr.getD t .any with
        | .v (.bool b) =>
          match b == want with
          | true => (opE T ip s.H.length (getH s.H) (opd Γ s.fr) o.op).bind fun out => .leaf (doneE s o out)
          | false => .leaf ⟨putF s.fr o.dst (.v undef), s.H, s.eff⟩
        | .v (.tuple _) => .leaf ⟨putF s.fr o.dst (.v undef), s.H, s.eff⟩
        | .sb b =>
          match want with
          | true =>
            .br b ((opE T ip s.H.length (getH s.H) (opd Γ (s.fr.set t (.v (.bool true)))) o.op).bind fun out => .leaf (doneE ⟨s.fr.set t (.v (.bool true)), s.H, s.eff⟩ o out))
              (.leaf ⟨putF (s.fr.set t (.v (.bool false))) o.dst (.v undef), s.H, s.eff⟩)
          | false =>
            .br b (.leaf ⟨putF (s.fr.set t (.v (.bool true))) o.dst (.v undef), s.H, s.eff⟩)
              ((opE T ip s.H.length (getH s.H) (opd Γ (s.fr.set t (.v (.bool false)))) o.op).bind fun out => .leaf (doneE ⟨s.fr.set t (.v (.bool false)), s.H, s.eff⟩ o out))
        | _ => .fail
      | none => .fail
    | none => .fail

def stepsE {P : Program} {Γ : Nat → AV} (T : List (CT P Γ)) (ip : Bool) (ops : Array Oper) : List Oper → St → Tree St
  | [], s => .leaf s
  | o :: l, s => (stepE T ip ops o s).bind fun s' => stepsE T ip ops l s'

/-- the slots that a region writes or whose tests it takes apart -/
def touched (ops : List Oper) : List Nat := ops.filterMap (·.dst)
def mixF (ts : List Nat) (c : Bool) : Nat → List AV → List AV → List AV → List AV
  | k, z :: zs, x :: xs, y :: ys => (match memN k ts with
    | true => mixAV c x y
    | false => z) :: mixF ts c (k + 1) zs xs ys
  | _, _, _, _ => []
def andG : Option Bool → Option Bool → Option Bool
  | none, g => g
  | g, none => g
  | some a, some b => some (a && b)
def iteG (c : Bool) : Option Bool → Option Bool → Option Bool
  | none, none => none
  | some a, none => some (bif c then a else true)
  | none, some b => some (bif c then true else b)
  | some a, some b => some (bif c then a else b)
/-- the ways through a region without an effect, as one -/
def flatT (ts : List Nat) (fr0 : List AV) : Tree St → Option (Option Bool × List AV)
  | .leaf s => match s.eff with
    | true => none
    | false => some (none, s.fr)
  | .chk c t => match flatT ts fr0 t with
    | some (g, fr) => some (andG (some c) g, fr)
    | none => none
  | .br c t e => match flatT ts fr0 t, flatT ts fr0 e with
    | some (g, a), some (g', b) => some (iteG c g g', mixF ts c 0 fr0 a b)
    | _, _ => none
  | .fail => none
def mergeT (ts : List Nat) (fr0 : List AV) (H0 : Heap) (t : Tree St) : Tree St :=
  match t with
  | .leaf s => .leaf s
  | t => match flatT ts fr0 t with
    | some (none, fr) => .leaf ⟨fr, H0, false⟩
    | some (some g, fr) => .chk g (.leaf ⟨fr, H0, false⟩)
    | none => t

/-! ### regions that draw: what is written between -/
/-- which operations stand surely ahead of each: by the edges, as bits -/
def befores : List Oper → List Nat → List Nat
  | [], acc => acc
  | o :: l, acc => befores l (acc ++ [o.after.toList.foldl (fun s e => match Region.binds .any e with
      | true => s ||| 2 ^ e.on ||| acc.getD e.on 0
      | false => s) 0])
def slotsOf (ops : List Oper) (o : Oper) : List Nat :=
  (o.op.operands.toList.filterMap fun | .tmp t => some t | _ => none) ++ (match o.guard with
    | some (g, _) => match ops[g]? with
      | some og => og.dst.toList
      | none => []
    | none => [])
def meets (a b : List Nat) : Bool := a.any fun x => memN x b
/-- two operations that touch one slot stand in a sure order -/
def drawOk (ops : List Oper) : Bool :=
  (List.range ops.length).all fun j => match ops[j]? with
    | none => true
    | some oj => (List.range j).all fun i => match ops[i]? with
      | none => true
      | some oi => (!(meets oi.dst.toList (slotsOf ops oj ++ oj.dst.toList)) && !(meets oj.dst.toList (slotsOf ops oi))) || ((befores ops []).getD j 0).testBit i
/-- each edge that binds leads back -/
def backOk : Nat → List Oper → Bool
  | _, [] => true
  | k, o :: l => (o.after.toList.all fun e => !(Region.binds .any e) || Nat.blt e.on k) && backOk (k + 1) l
def maskF (ss : List Nat) : Nat → List AV → List AV
  | _, [] => []
  | k, x :: xs => (match memN k ss with
    | true => x
    | false => .any) :: maskF ss (k + 1) xs
def unmaskF (ss : List Nat) : Nat → List AV → List AV → List AV
  | k, x :: xs, y :: ys => (match memN k ss with
    | true => y
    | false => x) :: unmaskF ss (k + 1) xs ys
  | _, _, _ => []
/-- a step that looks at its own slots alone -/
def stepD {P : Program} {Γ : Nat → AV} (T : List (CT P Γ)) (ip : Bool) (ops : Array Oper) (o : Oper) (s : St) : Tree St :=
  (stepE T ip ops o ⟨maskF (slotsOf ops.toList o) 0 s.fr, s.H, s.eff⟩).bind fun s' => .leaf ⟨unmaskF (slotsOf ops.toList o ++ o.dst.toList) 0 s.fr s'.fr, s'.H, s'.eff⟩
/-- the states behind each operation, in the text's order; the flag: this step writes -/
def stepsX {P : Program} {Γ : Nat → AV} (T : List (CT P Γ)) (ip : Bool) (ops : Array Oper) : List Oper → List AV → Heap → Tree (List St)
  | [], _, _ => .leaf []
  | o :: l, fr, H => (stepD T ip ops o ⟨fr, H, false⟩).bind fun s => (stepsX T ip ops l s.fr s.H).bind fun r => .leaf (s :: r)
mutual
/-- surely the same -/
def sameAV : AV → AV → Bool
  | .any, .any => true
  | .v (.int k a), .v (.int k' b) => decide (k = k') && decide (a = b)
  | .v (.bool a), .v (.bool b) => a == b
  | .v (.string a), .v (.string b) => decide (a = b)
  | .v (.pointer none), .v (.pointer none) => true
  | .v (.slice none a b), .v (.slice none a' b') => Nat.beq a a' && Nat.beq b b'
  | .sb a, .sb b => a == b
  | .agg a, .agg b => sameL a b
  | .tup a, .tup b => sameL a b
  | .ptr i o, .ptr i' o' => Nat.beq i i' && Nat.beq o o'
  | .ap i, .ap i' => Nat.beq i i'
  | .eptr i e o, .eptr i' e' o' => Nat.beq i i' && Nat.beq e e' && Nat.beq o o'
  | .hs i e n, .hs i' e' n' => Nat.beq i i' && Nat.beq e e' && Nat.beq n n'
  | .map i, .map i' => Nat.beq i i'
  | .its i, .its i' => Nat.beq i i'
  | _, _ => false
def sameL : List AV → List AV → Bool
  | [], [] => true
  | x :: xs, y :: ys => sameAV x y && sameL xs ys
  | _, _ => false
end
def condT {α : Type} : Tree α → Bool
  | .leaf _ => true
  | .chk c t => c && condT t
  | .br c t e => bif c then condT t else condT e
  | .fail => false
/-- at another heap the step answers the same and writes nothing -/
def stableE {P : Program} {Γ : Nat → AV} (T : List (CT P Γ)) (ip : Bool) (ops : Array Oper) (o : Oper) (fr : List AV) (H : Heap) (s : St) : Bool :=
  condT ((stepD T ip ops o ⟨fr, H, false⟩).bind fun s' => match s'.eff with
    | true => .fail
    | false => match o.dst with
      | some t => .chk (sameAV (s'.fr.getD t .any) (s.fr.getD t .any)) (.leaf ())
      | none => .leaf ())
/-- how many steps ahead of each write, and which write: (place, number) -/
def writes : Nat → Nat → List St → List (Nat × Nat)
  | _, _, [] => []
  | k, c, s :: l => match s.eff with
    | true => (k, c) :: writes (k + 1) (c + 1) l
    | false => writes (k + 1) c l
def heapsX (H : Heap) : List St → List Heap
  | [] => [H]
  | s :: l => match s.eff with
    | true => H :: heapsX s.H l
    | false => heapsX H l
def mayStand (bef : List Nat) (W : List (Nat × Nat)) (k p : Nat) : Bool :=
  W.all fun e => (!((bef.getD k 0).testBit e.1) || Nat.blt e.2 p) && (!((bef.getD e.1 0).testBit k) || Nat.ble p e.2)
def ordX (bef : List Nat) : List (Nat × Nat) → Bool
  | [] => true
  | e :: es => (es.all fun j => (bef.getD j.1 0).testBit e.1) && ordX bef es
def checksX {P : Program} {Γ : Nat → AV} (T : List (CT P Γ)) (ip : Bool) (ops : Array Oper) (bef : List Nat) (W : List (Nat × Nat)) (Hs : List Heap) : Nat → Nat → List Oper → List AV → List St → Bool
  | k, c, o :: l, fr, s :: R => match s.eff with
    | true => checksX T ip ops bef W Hs (k + 1) (c + 1) l s.fr R
    | false => ((List.range Hs.length).all fun p => match Nat.beq p c || !(mayStand bef W k p) with
      | true => true
      | false => stableE T ip ops o fr (Hs.getD p []) s) && checksX T ip ops bef W Hs (k + 1) c l s.fr R
  | _, _, _, _, _ => true
def lastX : List AV → Heap → List St → List AV × Heap
  | fr, H, [] => (fr, H)
  | _, _, s :: l => lastX s.fr s.H l
def endX {P : Program} {Γ : Nat → AV} (T : List (CT P Γ)) (ip : Bool) (ops : Array Oper) (fr : List AV) (H : Heap) (R : List St) : Tree St :=
  match writes 0 0 R with
  | [] => .leaf ⟨(lastX fr H R).1, (lastX fr H R).2, false⟩
  | W => .chk (ordX (befores ops.toList []) W && checksX T ip ops (befores ops.toList []) W (heapsX H R) 0 0 ops.toList fr R) (.leaf ⟨(lastX fr H R).1, (lastX fr H R).2, true⟩)
/-! ### regions that draw: who touches what -/
/-- the numbers of the blocks that a step writes -/
def wroteE (nb : Nat) (out : OpOut) : List Nat := out.upd.map (·.1) ++ List.range' nb out.new.length
def stepW {P : Program} {Γ : Nat → AV} (T : List (CT P Γ)) (ip : Bool) (ops : Array Oper) (o : Oper) (s : St) : Tree (St × List Nat) :=
  match o.guard with
  | none => (opE T ip s.H.length (getH s.H) (opd Γ s.fr) o.op).bind fun out => .leaf (doneE s o out, wroteE s.H.length out)
  | some (j, want) =>
    match ops[j]? with
    | some oj =>
      match oj.dst with
      | some t =>
        match s.fr.getD t .any with
        | .v (.bool b) =>
          match b == want with
          | true => (opE T ip s.H.length (getH s.H) (opd Γ s.fr) o.op).bind fun out => .leaf (doneE s o out, wroteE s.H.length out)
          | false => .leaf (⟨putF s.fr o.dst (.v undef), s.H, s.eff⟩, [])
        | .v (.tuple _) => .leaf (⟨putF s.fr o.dst (.v undef), s.H, s.eff⟩, [])
        | .sb b =>
          match want with
          | true =>
            .br b ((opE T ip s.H.length (getH s.H) (opd Γ (s.fr.set t (.v (.bool true)))) o.op).bind fun out => .leaf (doneE ⟨s.fr.set t (.v (.bool true)), s.H, s.eff⟩ o out, wroteE s.H.length out))
              (.leaf (⟨putF (s.fr.set t (.v (.bool false))) o.dst (.v undef), s.H, s.eff⟩, []))
          | false =>
            .br b (.leaf (⟨putF (s.fr.set t (.v (.bool true))) o.dst (.v undef), s.H, s.eff⟩, []))
              ((opE T ip s.H.length (getH s.H) (opd Γ (s.fr.set t (.v (.bool false)))) o.op).bind fun out => .leaf (doneE ⟨s.fr.set t (.v (.bool false)), s.H, s.eff⟩ o out, wroteE s.H.length out))
        | _ => .fail
      | none => .fail
    | none => .fail
/-- what a step may look at: the blocks that its slots reach -/
def footE (H : Heap) (fr : List AV) : Option (List Nat) := reach (getH H) 1000 (AV.idsL fr) []
structure StW where
  s : St
  w : List Nat
  f : Option (List Nat)
def stepV {P : Program} {Γ : Nat → AV} (T : List (CT P Γ)) (ip : Bool) (ops : Array Oper) (o : Oper) (s : St) : Tree StW :=
  (stepW T ip ops o ⟨maskF (slotsOf ops.toList o) 0 s.fr, s.H, s.eff⟩).bind fun r =>
    .leaf ⟨⟨unmaskF (slotsOf ops.toList o ++ o.dst.toList) 0 s.fr r.1.fr, r.1.H, r.1.eff⟩, r.2, footE s.H (maskF (slotsOf ops.toList o) 0 s.fr)⟩
def stepsY {P : Program} {Γ : Nat → AV} (T : List (CT P Γ)) (ip : Bool) (ops : Array Oper) : List Oper → List AV → Heap → Tree (List StW)
  | [], _, _ => .leaf []
  | o :: l, fr, H => (stepV T ip ops o ⟨fr, H, false⟩).bind fun r => (stepsY T ip ops l r.s.fr r.s.H).bind fun rs => .leaf (r :: rs)
def apartW (w : List Nat) (f : Option (List Nat)) : Bool := match w with
  | [] => true
  | w => match f with
    | some f => !meets w f
    | none => false
/-- two steps of which one writes what the other one looks at or writes stand in a sure order -/
def footOk (bef : List Nat) (L : List StW) : Bool :=
  (List.range L.length).all fun j => match L[j]? with
    | none => true
    | some rj => (List.range j).all fun i => match L[i]? with
      | none => true
      | some ri => (bef.getD j 0).testBit i || (apartW rj.w ri.f && apartW ri.w rj.f && !meets ri.w rj.w)
def endY {P : Program} {Γ : Nat → AV} (T : List (CT P Γ)) (ip : Bool) (ops : Array Oper) (fr : List AV) (H : Heap) (L : List StW) : Tree St :=
  match writes 0 0 (L.map (·.s)) with
  | [] => .leaf ⟨(lastX fr H (L.map (·.s))).1, (lastX fr H (L.map (·.s))).2, false⟩
  | _ => match footOk (befores ops.toList []) L with
    | true => .leaf ⟨(lastX fr H (L.map (·.s))).1, (lastX fr H (L.map (·.s))).2, true⟩
    | false => endX T ip ops fr H (L.map (·.s))
/-- a region that draws its order: what is written stands in a sure order, and what is read between is the same wherever it stands -/
def drawE {P : Program} {Γ : Nat → AV} (T : List (CT P Γ)) (ip : Bool) (ops : Array Oper) (fr : List AV) (H : Heap) : Tree St :=
  match drawOk ops.toList && backOk 0 ops.toList && P.follows .mixedOrders with
  | true => mergeT (touched ops.toList) fr H ((stepsY T ip ops ops.toList fr H).bind fun R => endY T ip ops fr H R)
  | false => .fail
def regionE {P : Program} {Γ : Nat → AV} (T : List (CT P Γ)) (ip : Bool) (ops : Array Oper) (fr : List AV) (H : Heap) : Tree St :=
  mergeT (touched ops.toList) fr H (stepsE T ip ops ops.toList ⟨fr, H, false⟩)

/-! ### code -/
inductive AEx where
  | normal
  | exit (id : Nat)
  | ret

structure Out where
  ex : AEx
  fr : List AV
  H : Heap

/-- what a loop does: the slots that live at its head, and the summary -/
structure LSpec where
  live : List Nat
  nils : List (Nat × TypeId) := []
  spec : List AV → Heap → Tree Out

def nloops : Code → Nat
  | .seq a b => nloops a + nloops b
  | .cond _ a b => nloops a + nloops b
  | .block _ b => nloops b
  | .loop b => nloops b + 1
  | _ => 0
def loopBodies : Code → List Code
  | .seq a b => loopBodies a ++ loopBodies b
  | .cond _ a b => loopBodies a ++ loopBodies b
  | .block _ b => loopBodies b
  | .loop b => b :: loopBodies b
  | _ => []

def boxNils (P : Program) : List (Nat × TypeId) → List AV → Heap → Option (List AV × Heap)
  | [], vals, H => some (vals, H)
  | (k, t) :: r, vals, H =>
    match vals[k]? with
    | some (.v (.slice none 0 0)) =>
      match szOf P t, zeroOf P t with
      | some sz, some z => if z.length = sz then boxNils P r (vals.set k (.hs H.length 0 0)) (H ++ [some (.arr sz 0 fun _ => z)]) else none
      | _, _ => none
    | some _ => boxNils P r vals H
    | none => none
/-- the same state with the blocks numbered anew: the first 'm' stay, then those that are reached -/
def canonIds (m : Nat) (vals : List AV) (H : Heap) : Option (List Nat) :=
  match reach (getH H) 1000 (AV.idsL vals) [] with
  | some ids =>
    match reach (getH H) 1000 (ids ++ ((List.range m).filter fun i => ((getH H) i).isSome)) [] with
    | some all => some (List.range m ++ all.filter fun i => Nat.ble m i)
    | none => none
  | none => none
def canonH (r : Nat → Nat) (H : Heap) (ids : List Nat) : Heap := ids.map fun i => ((getH H) i).map (blkRen r)
def canon (m : Nat) (vals : List AV) (H : Heap) : Option (List AV × Heap) :=
  match canonIds m vals H with
  | some ids => some (AV.renL (fun i => posIn i ids) vals, canonH (fun i => posIn i ids) H ids)
  | none => none
def expand (n : Nat) (live : List Nat) (vals : List AV) : List AV :=
  (List.range n).map fun t => match memN t live with
    | true => vals.getD (posIn t live) .any
    | false => .any

/-- what points at a block that is gone is forgotten -/
def cleanV (get : Get) (x : AV) : AV :=
  match x.ids with
  | [] => x
  | ids => match reach get 1000 ids [] with
    | some _ => x
    | none => .any
/-- the head of a loop: what lives, canonically -/
def headE (P : Program) (m : Nat) (live : List Nat) (nils : List (Nat × TypeId)) (fr : List AV) (H : Heap) : Option (List AV × Heap) :=
  match boxNils P nils (live.map fun t => cleanV (getH H) (fr.getD t .any)) H with
  | some (vals, H) => canon m vals H
  | none => none

def codeE {P : Program} {Γ : Nat → AV} (T : List (CT P Γ)) (L : Nat → LSpec) (ip : Bool) (m : Nat) : Nat → Code → List AV → Heap → Tree Out
  | _, .skip, fr, H => .leaf ⟨.normal, fr, H⟩
  | _, .region _ ops draw, fr, H => (match draw with
    | true => drawE T ip ops fr H
    | false => regionE T ip ops fr H).bind fun s => .leaf ⟨.normal, s.fr, s.H⟩
  | k, .seq a b, fr, H => (codeE T L ip m k a fr H).bind fun o => match o.ex with
    | .normal => codeE T L ip m (k + nloops a) b o.fr o.H
    | _ => .leaf o
  | k, .cond c a b, fr, H => match opd Γ fr c with
    | .v (.bool true) => codeE T L ip m k a fr H
    | .v (.bool false) => codeE T L ip m (k + nloops a) b fr H
    | .sb c => .br c (codeE T L ip m k a fr H) (codeE T L ip m (k + nloops a) b fr H)
    | _ => .fail
  | k, .block id c, fr, H => (codeE T L ip m k c fr H).bind fun o => match o.ex with
    | .exit j => match Nat.beq j id with
      | true => .leaf ⟨.normal, o.fr, o.H⟩
      | false => .leaf o
    | _ => .leaf o
  | k, .loop _, fr, H => match headE P m (L k).live (L k).nils fr H with
    | some (vals, H) => ((L k).spec vals H).bind fun o => .leaf ⟨o.ex, expand fr.length (L k).live o.fr, o.H⟩
    | none => .fail
  | _, .exit id, fr, H => .leaf ⟨.exit id, fr, H⟩
  | _, .ret, fr, H => .leaf ⟨.ret, fr, H⟩
  | _, _, _, _ => .fail

def resV (P : Program) (get : Get) (fr : List AV) : List ResultVar → Option (List AV)
  | [] => some []
  | .tmp t :: r => match resV P get fr r with
    | some vs => some (fr.getD t .any :: vs)
    | none => none
  | .cell a t :: r => match loadE P get t (fr.getD a .any), resV P get fr r with
    | some v, some vs => some (v :: vs)
    | _, _ => none
def oneOf : List AV → AV
  | [x] => x
  | vs => .tup vs
/-- a function's body: the value that it returns and the heap, canonically -/
structure Ans where
  val : AV
  H : Heap
def ansE (P : Program) (m : Nat) (results : List ResultVar) (o : Out) : Tree Ans :=
  match o.ex with
  | .exit _ => .fail
  | _ =>
    match resV P (getH o.H) o.fr results with
    | some vs => match canon m [oneOf vs] o.H with
      | some ([v], H) => .leaf ⟨v, H⟩
      | _ => .fail
    | none => .fail
def frame0 (n : Nat) (args : List AV) : List AV := args ++ List.replicate (n - args.length) .any

def bodyE {P : Program} {Γ : Nat → AV} (T : List (CT P Γ)) (L : Nat → LSpec) (ip : Bool) (ntmps : Nat) (results : List ResultVar) (c : Code) (args : List AV) (Hin : List Blk) : Tree Ans :=
  (codeE T L ip Hin.length 0 c (frame0 ntmps args) (Hin.map some)).bind (ansE P Hin.length results)

end Go.Eng
