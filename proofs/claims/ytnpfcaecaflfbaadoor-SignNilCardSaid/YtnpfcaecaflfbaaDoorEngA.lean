/- An abstract evaluator of the model's code, part A: decision trees, abstract values, blocks, what they stand for. -/
import Derived.Orders
import Derived.KernelRfl
import Derived.Laws.Sem
namespace Go.Eng
open Go

/-! ### decision trees -/
inductive Tree (α : Type) where
  | leaf (a : α)
  | br (c : Bool) (t e : Tree α)
  | chk (c : Bool) (t : Tree α)
  | fail

namespace Tree
variable {α β γ : Type}
def get : Tree α → Option α
  | leaf a => some a
  | br c t e => match c with
    | true => t.get
    | false => e.get
  | chk c t => match c with
    | true => t.get
    | false => none
  | fail => none
def bind : Tree α → (α → Tree β) → Tree β
  | leaf a, f => f a
  | br c t e, f => br c (t.bind f) (e.bind f)
  | chk c t, f => chk c (t.bind f)
  | fail, _ => fail
def map (f : α → β) (t : Tree α) : Tree β := t.bind fun a => leaf (f a)
theorem get_bind (t : Tree α) (f : α → Tree β) : (t.bind f).get = t.get.bind fun a => (f a).get := by
  induction t with
  | leaf a => rfl
  | br c t e iht ihe => cases c <;> simp [bind, get, iht, ihe]
  | chk c t ih => cases c <;> simp [bind, get, ih]
  | fail => rfl
theorem get_bind_some {t : Tree α} {f : α → Tree β} {b : β} (h : (t.bind f).get = some b) : ∃ a, t.get = some a ∧ (f a).get = some b := by
  rw [get_bind] at h
  cases ht : t.get with
  | none => simp [ht] at h
  | some a => exact ⟨a, rfl, by simpa [ht] using h⟩
/-- the tree as a statement on its leaf -/
def sat (Q : α → Prop) : Tree α → Prop
  | leaf a => Q a
  | br c t e => (c = true → t.sat Q) ∧ (c = false → e.sat Q)
  | chk c t => c = true ∧ t.sat Q
  | fail => False
theorem sat_iff {t : Tree α} {Q : α → Prop} : t.sat Q ↔ ∃ a, t.get = some a ∧ Q a := by
  induction t with
  | leaf a => simp [sat, get]
  | br c t e iht ihe => cases c <;> simp [sat, get, iht, ihe]
  | chk c t ih => cases c <;> simp [sat, get, ih]
  | fail => simp [sat, get]
@[simp] theorem sat_leaf {Q : α → Prop} {a : α} : (leaf a).sat Q = Q a := rfl
@[simp] theorem sat_br {Q : α → Prop} {c : Bool} {t e : Tree α} : (br c t e).sat Q = ((c = true → t.sat Q) ∧ (c = false → e.sat Q)) := rfl
@[simp] theorem sat_chk {Q : α → Prop} {c : Bool} {t : Tree α} : (chk c t).sat Q = (c = true ∧ t.sat Q) := rfl
@[simp] theorem sat_fail {Q : α → Prop} : (fail : Tree α).sat Q = False := rfl
def ofOption : Option α → Tree α
  | some a => leaf a
  | none => fail
@[simp] theorem get_ofOption (x : Option α) : (ofOption x).get = x := by cases x <;> rfl
end Tree

/-! ### abstract values -/
inductive AV where
  | any
  | v (x : Value)
  | sb (b : Bool)
  | agg (cs : List AV)
  | tup (vs : List AV)
  | ptr (i o : Nat)
  | ap (i : Nat)
  | eptr (i e o : Nat)
  | hs (i e n : Nat)
  | sl (sz n : Nat) (f : Nat → List AV)
  | pp (cs : List AV)
  | pa (sz n : Nat) (f : Nat → List AV)
  | fn (f : FuncId) (first cap : List AV)
  | map (i : Nat)
  | its (i : Nat)
  deriving Inhabited

/-- what a cell of a map's key may hold -/
inductive Cel where
  | int (k : IntKind)
  | bool
  | str
/-- a cell of a map's key -/
inductive KC where
  | i (n : Int)
  | s (t : ByteArray)
  | b (c : Bool)
inductive Blk where
  | row (cs : List AV)
  | arr (sz n : Nat) (f : Nat → List AV)
  | mp (cels : List Cel) (ka va : Bool) (n : Nat) (has : List KC → Bool) (val : List KC → List AV)
  | sit (s : ByteArray) (pos : Nat)

mutual
def AV.ids : AV → List Nat
  | .agg cs => AV.idsL cs
  | .tup cs => AV.idsL cs
  | .ptr i _ => [i]
  | .ap i => [i]
  | .eptr i _ _ => [i]
  | .hs i _ _ => [i]
  | .fn _ a b => AV.idsL a ++ AV.idsL b
  | .map i => [i]
  | .its i => [i]
  | _ => []
def AV.idsL : List AV → List Nat
  | [] => []
  | c :: cs => AV.ids c ++ AV.idsL cs
end

mutual
def AV.ren (r : Nat → Nat) : AV → AV
  | .agg cs => .agg (AV.renL r cs)
  | .tup cs => .tup (AV.renL r cs)
  | .ptr i o => .ptr (r i) o
  | .ap i => .ap (r i)
  | .eptr i e o => .eptr (r i) e o
  | .hs i e n => .hs (r i) e n
  | .fn f a b => .fn f (AV.renL r a) (AV.renL r b)
  | .map i => .map (r i)
  | .its i => .its (r i)
  | x => x
def AV.renL (r : Nat → Nat) : List AV → List AV
  | [] => []
  | c :: cs => AV.ren r c :: AV.renL r cs
end

/-- a cell that may lie where no numbers of blocks may -/
def AV.free : AV → Bool
  | .any | .v _ | .sb _ | .sl .. | .pp _ | .pa .. => true
  | _ => false

def avOf : Value → AV
  | .agg cs => .agg (cs.toList.map .v)
  | .func (.func f) ⟨[]⟩ ⟨[]⟩ => .fn f [] []
  | x => .v x

/-! ### what they stand for -/
structure Lc where
  b : Nat
  base : Nat
  sz : Nat
  size : Nat
  n : Nat
  virt : Bool := false

abbrev Store := Nat → Nat → Option Value
abbrev Places := Nat → Option Lc

inductive V0 (σ : Store) : AV → Value → Prop where
  | any (y : Value) : V0 σ .any y
  | v (x : Value) : V0 σ (.v x) x
  | sb (b : Bool) : V0 σ (.sb b) (.bool b)
  | sl (sz n : Nat) (f : Nat → List AV) (ad : Addr) (cap : Nat) (ys : Nat → Nat → Value) (hs : ad.spot = none) (hn : n ≤ cap)
      (hl : ∀ (e : Nat), (f e).length = sz) (hm : ∀ (e j : Nat) (c : AV), e < n → (f e)[j]? = some c → σ ad.block (ad.off + e * sz + j) = some (ys e j))
      (ho : ∀ (e j : Nat) (c : AV), e < n → (f e)[j]? = some c → (ys e j).oneCell' = true)
      (hv : ∀ (e j : Nat) (c : AV), e < n → (f e)[j]? = some c → V0 σ c (ys e j)) : V0 σ (.sl sz n f) (.slice (some ad) n cap)
  | slnil (sz n : Nat) (f : Nat → List AV) (A : Option Addr) (cap : Nat) (hl : ∀ (e : Nat), (f e).length = sz) (hn : n = 0) (ha : A ≠ none) : V0 σ (.sl sz n f) (.slice A n cap)
  | pp (cs : List AV) (ad : Addr) (ys : Nat → Value) (hs : ad.spot = none) (hm : ∀ (j : Nat) (c : AV), cs[j]? = some c → σ ad.block (ad.off + j) = some (ys j))
      (hv : ∀ (j : Nat) (c : AV), cs[j]? = some c → V0 σ c (ys j)) : V0 σ (.pp cs) (.pointer (some ad))
  | pa (sz n : Nat) (f : Nat → List AV) (ad : Addr) (ys : Nat → Nat → Value) (hs : ad.spot = none)
      (hl : ∀ (e : Nat), (f e).length = sz) (hm : ∀ (e j : Nat) (c : AV), e < n → (f e)[j]? = some c → σ ad.block (ad.off + e * sz + j) = some (ys e j))
      (hv : ∀ (e j : Nat) (c : AV), e < n → (f e)[j]? = some c → V0 σ c (ys e j)) : V0 σ (.pa sz n f) (.pointer (some ad))

inductive V (σ : Store) (φ : Places) : AV → Value → Prop where
  | base {x : AV} {y : Value} (h : V0 σ x y) : V σ φ x y
  | agg {cs : List AV} {ys : Array Value} (hl : cs.length = ys.size) (h : ∀ (j : Nat) (c : AV) (y : Value), cs[j]? = some c → ys[j]? = some y → V σ φ c y) : V σ φ (.agg cs) (.agg ys)
  | tup {cs : List AV} {ys : Array Value} (hl : cs.length = ys.size) (h : ∀ (j : Nat) (c : AV) (y : Value), cs[j]? = some c → ys[j]? = some y → V σ φ c y) : V σ φ (.tup cs) (.tuple ys)
  | ptr {i o : Nat} {L : Lc} (h : φ i = some L) (hr : L.virt = false) : V σ φ (.ptr i o) (.pointer (some ⟨L.b, L.base + o, none⟩))
  | ap {i : Nat} {L : Lc} (h : φ i = some L) (hr : L.virt = false) : V σ φ (.ap i) (.pointer (some ⟨L.b, L.base, none⟩))
  | eptr {i e o : Nat} {L : Lc} (h : φ i = some L) (hr : L.virt = false) (he : e < L.n) : V σ φ (.eptr i e o) (.pointer (some ⟨L.b, L.base + e * L.sz + o, none⟩))
  | hs {i e n cap : Nat} {L : Lc} (h : φ i = some L) (hr : L.virt = false) (hn : n ≤ cap) (he : e + n ≤ L.n) (hx : L.n ≤ e + cap) (hc : L.base + e * L.sz + cap * L.sz ≤ L.size) :
      V σ φ (.hs i e n) (.slice (some ⟨L.b, L.base + e * L.sz, none⟩) n cap)
  | hsnil {i e n : Nat} {L : Lc} (A : Option Addr) (h : φ i = some L) (he : L.n ≤ e) (hn : n = 0) : V σ φ (.hs i e n) (.slice A 0 0)
  | fn {f : FuncId} {a b : List AV} {xs ys : Array Value} (ha : a.length = xs.size) (hb : b.length = ys.size)
      (h1 : ∀ (j : Nat) (c : AV) (y : Value), a[j]? = some c → xs[j]? = some y → V σ φ c y) (h2 : ∀ (j : Nat) (c : AV) (y : Value), b[j]? = some c → ys[j]? = some y → V σ φ c y) :
      V σ φ (.fn f a b) (.func (.func f) xs ys)
  | map {i : Nat} {L : Lc} (h : φ i = some L) (hr : L.virt = false) : V σ φ (.map i) (.map (some L.b))
  | its {i : Nat} {L : Lc} (h : φ i = some L) (hr : L.virt = false) : V σ φ (.its i) (.pointer (some ⟨L.b, 0, none⟩))

def Store.le (σ σ' : Store) : Prop := ∀ b o y, σ b o = some y → σ' b o = some y
def Places.le (φ φ' : Places) : Prop := ∀ i L, φ i = some L → φ' i = some L
theorem Store.le_refl (σ : Store) : σ.le σ := fun _ _ _ h => h
theorem Places.le_refl (φ : Places) : φ.le φ := fun _ _ h => h
theorem Store.le_trans {a b c : Store} (h : a.le b) (h' : b.le c) : a.le c := fun _ _ _ k => h' _ _ _ (h _ _ _ k)
theorem Places.le_trans {a b c : Places} (h : a.le b) (h' : b.le c) : a.le c := fun _ _ k => h' _ _ (h _ _ k)

theorem V0.mono {σ σ' : Store} (hs : σ.le σ') {x : AV} {y : Value} (h : V0 σ x y) : V0 σ' x y := by
  induction h with
  | any y => exact .any y
  | v x => exact .v x
  | sb b => exact .sb b
  | sl sz n f ad cap ys hsp hn hl hm ho _ ih => exact .sl sz n f ad cap ys hsp hn hl (fun e j c he hc => hs _ _ _ (hm e j c he hc)) ho ih
  | slnil sz n f A cap hl hn ha => exact .slnil sz n f A cap hl hn ha
  | pp cs ad ys hsp hm _ ih => exact .pp cs ad ys hsp (fun j c hc => hs _ _ _ (hm j c hc)) ih
  | pa sz n f ad ys hsp hl hm _ ih => exact .pa sz n f ad ys hsp hl (fun e j c he hc => hs _ _ _ (hm e j c he hc)) ih

theorem V.mono {σ σ' : Store} {φ φ' : Places} (hs : σ.le σ') (hp : φ.le φ') {x : AV} {y : Value} (h : V σ φ x y) : V σ' φ' x y := by
  induction h with
  | base h => exact .base (h.mono hs)
  | agg hl _ ih => exact .agg hl ih
  | tup hl _ ih => exact .tup hl ih
  | ptr h hr => exact .ptr (hp _ _ h) hr
  | ap h hr => exact .ap (hp _ _ h) hr
  | eptr h hr he => exact .eptr (hp _ _ h) hr he
  | hs h hr hn he hx hc => exact .hs (hp _ _ h) hr hn he hx hc
  | hsnil A h he hn => exact .hsnil A (hp _ _ h) he hn
  | fn ha hb _ _ i1 i2 => exact .fn ha hb i1 i2
  | map h hr => exact .map (hp _ _ h) hr
  | its h hr => exact .its (hp _ _ h) hr

/-- renaming: the numbers of blocks go through 'r' -/
theorem V.ren {σ : Store} {φ φ' : Places} {r : Nat → Nat} {x : AV} {y : Value} (h : V σ φ x y) : (∀ i ∈ x.ids, ∀ L, φ i = some L → φ' (r i) = some L) → V σ φ' (x.ren r) y := by
  have idsL_mem : ∀ (cs : List AV) (j : Nat) (c : AV), cs[j]? = some c → ∀ i ∈ c.ids, i ∈ AV.idsL cs := by
    intro cs
    induction cs with
    | nil => intro j c h; simp at h
    | cons d ds ih =>
      intro j c h i hi
      simp only [AV.idsL, List.mem_append]
      cases j with
      | zero => simp at h; subst h; exact .inl hi
      | succ j => exact .inr (ih j c (by simpa using h) i hi)
  have renL_get : ∀ (cs : List AV) (j : Nat) (c : AV), (AV.renL r cs)[j]? = some c → ∃ d, cs[j]? = some d ∧ c = d.ren r := by
    intro cs
    induction cs with
    | nil => intro j c h; simp [AV.renL] at h
    | cons d ds ih =>
      intro j c h
      cases j with
      | zero => simp [AV.renL] at h; exact ⟨d, by simp, h.symm⟩
      | succ j => simpa using ih j c (by simpa [AV.renL] using h)
  have renL_len : ∀ (cs : List AV), (AV.renL r cs).length = cs.length := by
    intro cs; induction cs with
    | nil => rfl
    | cons d ds ih => simp [AV.renL, ih]
  induction h with
  | base h =>
    intro _
    cases h <;> simp only [AV.ren] <;> first
      | exact .base (.any _) | exact .base (.v _) | exact .base (.sb _)
      | (apply V.base; apply V0.sl <;> assumption)
      | (apply V.base; apply V0.slnil <;> assumption)
      | (apply V.base; apply V0.pp <;> assumption)
      | (apply V.base; apply V0.pa <;> assumption)
  | @agg cs ys hl _ ih =>
    intro hr
    simp only [AV.ids] at hr
    refine .agg (by rw [renL_len]; exact hl) fun j c y hc hy => ?_
    obtain ⟨d, hd, rfl⟩ := renL_get cs j c hc
    exact ih j d y hd hy fun i hi => hr i (idsL_mem cs j d hd i hi)
  | @tup cs ys hl _ ih =>
    intro hr
    simp only [AV.ids] at hr
    refine .tup (by rw [renL_len]; exact hl) fun j c y hc hy => ?_
    obtain ⟨d, hd, rfl⟩ := renL_get cs j c hc
    exact ih j d y hd hy fun i hi => hr i (idsL_mem cs j d hd i hi)
  | ptr h hv => intro hr; exact .ptr (hr _ (by simp [AV.ids]) _ h) hv
  | ap h hv => intro hr; exact .ap (hr _ (by simp [AV.ids]) _ h) hv
  | eptr h hv he => intro hr; exact .eptr (hr _ (by simp [AV.ids]) _ h) hv he
  | hs h hv hn he hx hc => intro hr; exact .hs (hr _ (by simp [AV.ids]) _ h) hv hn he hx hc
  | hsnil A h he hn => intro hr; exact .hsnil A (hr _ (by simp [AV.ids]) _ h) he hn
  | @fn f a b xs ys ha hb _ _ i1 i2 =>
    intro hr
    simp only [AV.ids, List.mem_append] at hr
    refine .fn (by rw [renL_len]; exact ha) (by rw [renL_len]; exact hb) (fun j c y hc hy => ?_) (fun j c y hc hy => ?_)
    · obtain ⟨d, hd, rfl⟩ := renL_get a j c hc
      exact i1 j d y hd hy fun i hi => hr i (.inl (idsL_mem a j d hd i hi))
    · obtain ⟨d, hd, rfl⟩ := renL_get b j c hc
      exact i2 j d y hd hy fun i hi => hr i (.inr (idsL_mem b j d hd i hi))
  | map h hv => intro hr; exact .map (hr _ (by simp [AV.ids]) _ h) hv
  | its h hv => intro hr; exact .its (hr _ (by simp [AV.ids]) _ h) hv

theorem V_any {σ : Store} {φ : Places} (y : Value) : V σ φ .any y := .base (.any y)
theorem V_v {σ : Store} {φ : Places} (x : Value) : V σ φ (.v x) x := .base (.v x)
theorem V_sb {σ : Store} {φ : Places} (b : Bool) : V σ φ (.sb b) (.bool b) := .base (.sb b)
theorem V.v_eq {σ : Store} {φ : Places} {x y : Value} (h : V σ φ (.v x) y) : y = x := by cases h with | base h => cases h; rfl
theorem V.sb_eq {σ : Store} {φ : Places} {b : Bool} {y : Value} (h : V σ φ (.sb b) y) : y = .bool b := by cases h with | base h => cases h; rfl
theorem V.free {σ : Store} {φ : Places} {x : AV} {y : Value} (h : V σ φ x y) (hf : x.free = true) : V0 σ x y := by
  cases h <;> simp [AV.free] at hf
  case base h => exact h
theorem V_avOf {σ : Store} {φ : Places} (x : Value) : V σ φ (avOf x) x := by
  unfold avOf
  split
  · rename_i cs
    refine .agg (by simp) fun j c y hc hy => ?_
    simp only [List.getElem?_map, Array.getElem?_toList, hy, Option.map_some, Option.some.injEq] at hc
    subst hc
    exact V_v _
  · exact .fn (by simp) (by simp) (by simp) (by simp)
  · exact V_v _

/-! ### keys of maps -/
def KC.eq : KC → KC → Bool
  | .i x, .i y => decide (x = y)
  | .s x, .s y => decide (x = y)
  | .b x, .b y => x == y
  | _, _ => false
def eqK : List KC → List KC → Bool
  | [], [] => true
  | x :: xs, y :: ys => match ys with
    | [] => (match xs with
      | [] => KC.eq x y
      | _ => false)
    | ys => KC.eq x y && eqK xs ys
  | _, _ => false
def kcV : Cel → KC → Value
  | .int k, .i n => .int k n
  | .str, .s t => .string t
  | .bool, .b c => .bool c
  | _, _ => .tuple #[]
def kcFit : Cel → KC → Bool
  | .int _, .i _ => true
  | .str, .s _ => true
  | .bool, .b _ => true
  | _, _ => false
def kFit : List Cel → List KC → Bool
  | [], [] => true
  | c :: cs, k :: ks => kcFit c k && kFit cs ks
  | _, _ => false
def kVs : List Cel → List KC → List Value
  | c :: cs, k :: ks => kcV c k :: kVs cs ks
  | _, _ => []
/-- a key as a value -/
def kVal (ka : Bool) (cels : List Cel) (k : List KC) : Value := match ka with
  | true => .agg ⟨kVs cels k⟩
  | false => (kVs cels k).headD (.tuple #[])
/-- what a map holds at a key -/
def mvAt (σ : Store) (va : Bool) (cs : List AV) (v : Value) : Prop := match va with
  | true => ∃ ys : Array Value, v = .agg ys ∧ cs.length = ys.size ∧ ∀ (j : Nat) (c : AV) (y : Value), cs[j]? = some c → ys[j]? = some y → V0 σ c y
  | false => ∃ c, cs = [c] ∧ V0 σ c v
/-! ### blocks in a world -/
def World.row (w : World) (b : Nat) (c : Array Value) : Prop := ∃ T fr, w.heap[b]? = some (.cells c T fr) ∧ ∀ o, o < c.size → (decide (fr.1 ≤ o) && decide (o < fr.2)) = false

def blkAt (σ : Store) (φ : Places) (w : World) (L : Lc) : Blk → Prop
  | .row cs => ∃ c, World.row w L.b c ∧ c.size = L.size ∧ L.base + cs.length ≤ c.size ∧ ∀ (j : Nat) (x : AV), cs[j]? = some x → ∃ y, c[L.base + j]? = some y ∧ V σ φ x y
  | .arr sz n f => sz = L.sz ∧ n = L.n ∧ ∃ c, World.row w L.b c ∧ c.size = L.size ∧ L.base + n * sz ≤ c.size ∧
      ∀ (e : Nat), e < n → (f e).length = sz ∧ ∀ (j : Nat) (x : AV), (f e)[j]? = some x → ∃ y, c[L.base + e * sz + j]? = some y ∧ y.oneCell' = true ∧ V0 σ x y
  | .mp cels ka va n has val => ∃ es clock, w.heap[L.b]? = some (.map es clock) ∧ es.size = n ∧ (es.toList.map (·.key)).Nodup ∧
      (∀ e ∈ es.toList, ∃ k, kFit cels k = true ∧ e.key = kVal ka cels k ∧ has k = true ∧ mvAt σ va (val k) e.val) ∧
      (∀ k, kFit cels k = true → has k = true → ∃ e ∈ es.toList, e.key = kVal ka cels k)
  | .sit s pos => w.heap[L.b]? = some (.stringIter s pos)

/-- each element of a row has the row's count of cells -/
def blkWf : Blk → Prop
  | .arr sz _ f => ∀ e, (f e).length = sz
  | _ => True

structure Ctx where
  w0 : World
  σ0 : Store
  B : Nat → Prop

abbrev Get := Nat → Option Blk

structure R (κ : Ctx) (σ : Store) (φ : Places) (get : Get) (w : World) : Prop where
  cell : ∀ b o y, σ b o = some y → w.cell? ⟨b, o, none⟩ = some y
  apart : ∀ i L, φ i = some L → L.virt = false → (get i).isSome → ∀ o, σ L.b o = none
  obj : ∀ i blk L, get i = some blk → φ i = some L → L.virt = false → blkAt σ φ w L blk
  dis : ∀ i j Li Lj, i ≠ j → (get i).isSome → (get j).isSome → φ i = some Li → φ j = some Lj → Li.virt = false → Lj.virt = false → Li.b ≠ Lj.b
  lt : ∀ i L, φ i = some L → L.virt = false → L.b < w.heap.size
  tape : w.tape = κ.w0.tape
  os : w.os = κ.w0.os
  output : w.output = κ.w0.output
  grow : κ.w0.heap.size ≤ w.heap.size
  old : ∀ b, b < κ.w0.heap.size → ¬ κ.B b → w.heap[b]? = κ.w0.heap[b]?
  store : ∀ b o y, σ b o = some y → κ.σ0 b o = some y ∨ κ.B b ∨ κ.w0.heap.size ≤ b
  mine : ∀ i L, φ i = some L → L.virt = false → κ.B L.b ∨ κ.w0.heap.size ≤ L.b
  base : κ.σ0.le σ
  wf : ∀ i b, get i = some b → blkWf b
  len : ∀ i L sz n f, get i = some (.arr sz n f) → φ i = some L → n = L.n

end Go.Eng
