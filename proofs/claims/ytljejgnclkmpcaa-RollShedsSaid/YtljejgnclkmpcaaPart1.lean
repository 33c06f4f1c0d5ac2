/- Texts that RS13r needs: EngA and what follows it. -/
import Derived.Orders
import Derived.KernelRfl
import Derived.Laws.Sem
import GoSem.Dispatch
set_option linter.unnecessarySimpa false
set_option linter.unusedSectionVars false
set_option linter.unusedSimpArgs false
set_option linter.unusedVariables false
namespace Go.Eng
open Go

inductive Tree (α : Type) where
  | leaf (a : α)
  | br (c : Bool) (t e : Tree α)
  | chk (c : Bool) (t : Tree α)
  | fail

namespace Tree
variable {α β γ : Type}
def get : Tree α → Option α
  | leaf a => some a
  | br c t e => match c with
    | true => t.get
    | false => e.get
  | chk c t => match c with
    | true => t.get
    | false => none
  | fail => none
def bind : Tree α → (α → Tree β) → Tree β
  | leaf a, f => f a
  | br c t e, f => br c (t.bind f) (e.bind f)
  | chk c t, f => chk c (t.bind f)
  | fail, _ => fail
def map (f : α → β) (t : Tree α) : Tree β := t.bind fun a => leaf (f a)
theorem get_bind (t : Tree α) (f : α → Tree β) : (t.bind f).get = t.get.bind fun a => (f a).get := by
  induction t with
  | leaf a => rfl
  | br c t e iht ihe => cases c <;> simp [bind, get, iht, ihe]
  | chk c t ih => cases c <;> simp [bind, get, ih]
  | fail => rfl
theorem get_bind_some {t : Tree α} {f : α → Tree β} {b : β} (h : (t.bind f).get = some b) : ∃ a, t.get = some a ∧ (f a).get = some b := by
  rw [get_bind] at h
  cases ht : t.get with
  | none => simp [ht] at h
  | some a => exact ⟨a, rfl, by simpa [ht] using h⟩
def sat (Q : α → Prop) : Tree α → Prop
  | leaf a => Q a
  | br c t e => (c = true → t.sat Q) ∧ (c = false → e.sat Q)
  | chk c t => c = true ∧ t.sat Q
  | fail => False
theorem sat_iff {t : Tree α} {Q : α → Prop} : t.sat Q ↔ ∃ a, t.get = some a ∧ Q a := by
  induction t with
  | leaf a => simp [sat, get]
  | br c t e iht ihe => cases c <;> simp [sat, get, iht, ihe]
  | chk c t ih => cases c <;> simp [sat, get, ih]
  | fail => simp [sat, get]
@[simp] theorem sat_leaf {Q : α → Prop} {a : α} : (leaf a).sat Q = Q a := rfl
@[simp] theorem sat_br {Q : α → Prop} {c : Bool} {t e : Tree α} : (br c t e).sat Q = ((c = true → t.sat Q) ∧ (c = false → e.sat Q)) := rfl
@[simp] theorem sat_chk {Q : α → Prop} {c : Bool} {t : Tree α} : (chk c t).sat Q = (c = true ∧ t.sat Q) := rfl
@[simp] theorem sat_fail {Q : α → Prop} : (fail : Tree α).sat Q = False := rfl
def ofOption : Option α → Tree α
  | some a => leaf a
  | none => fail
@[simp] theorem get_ofOption (x : Option α) : (ofOption x).get = x := by cases x <;> rfl
end Tree

inductive AV where
  | any
  | v (x : Value)
  | sb (b : Bool)
  | agg (cs : List AV)
  | tup (vs : List AV)
  | ptr (i o : Nat)
  | ap (i : Nat)
  | eptr (i e o : Nat)
  | hs (i e n : Nat)
  | sl (sz n : Nat) (f : Nat → List AV)
  | pp (cs : List AV)
  | pa (sz n : Nat) (f : Nat → List AV)
  | fn (f : FuncId) (first cap : List AV)
  | map (i : Nat)
  | its (i : Nat)
  deriving Inhabited

inductive Cel where
  | int (k : IntKind)
  | bool
  | str
inductive KC where
  | i (n : Int)
  | s (t : ByteArray)
  | b (c : Bool)
inductive Blk where
  | row (cs : List AV)
  | arr (sz n : Nat) (f : Nat → List AV)
  | mp (cels : List Cel) (ka va : Bool) (n : Nat) (has : List KC → Bool) (val : List KC → List AV)
  | sit (s : ByteArray) (pos : Nat)

mutual
def AV.ids : AV → List Nat
  | .agg cs => AV.idsL cs
  | .tup cs => AV.idsL cs
  | .ptr i _ => [i]
  | .ap i => [i]
  | .eptr i _ _ => [i]
  | .hs i _ _ => [i]
  | .fn _ a b => AV.idsL a ++ AV.idsL b
  | .map i => [i]
  | .its i => [i]
  | _ => []
def AV.idsL : List AV → List Nat
  | [] => []
  | c :: cs => AV.ids c ++ AV.idsL cs
end

mutual
def AV.ren (r : Nat → Nat) : AV → AV
  | .agg cs => .agg (AV.renL r cs)
  | .tup cs => .tup (AV.renL r cs)
  | .ptr i o => .ptr (r i) o
  | .ap i => .ap (r i)
  | .eptr i e o => .eptr (r i) e o
  | .hs i e n => .hs (r i) e n
  | .fn f a b => .fn f (AV.renL r a) (AV.renL r b)
  | .map i => .map (r i)
  | .its i => .its (r i)
  | x => x
def AV.renL (r : Nat → Nat) : List AV → List AV
  | [] => []
  | c :: cs => AV.ren r c :: AV.renL r cs
end

def AV.free : AV → Bool
  | .any | .v _ | .sb _ | .sl .. | .pp _ | .pa .. => true
  | _ => false

def avOf : Value → AV
  | .agg cs => .agg (cs.toList.map .v)
  | .func (.func f) ⟨[]⟩ ⟨[]⟩ => .fn f [] []
  | x => .v x

def mkd : List AV → Bool
  | .v (.tuple _) :: _ => true
  | _ => false
structure Lc where
  b : Nat
  base : Nat
  sz : Nat
  size : Nat
  n : Nat
  virt : Bool := false

abbrev Store := Nat → Nat → Option Value
abbrev Places := Nat → Option Lc

inductive V0 (σ : Store) : AV → Value → Prop where
  | any (y : Value) : V0 σ .any y
  | v (x : Value) : V0 σ (.v x) x
  | sb (b : Bool) : V0 σ (.sb b) (.bool b)
  | sl (sz n : Nat) (f : Nat → List AV) (ad : Addr) (cap : Nat) (ys : Nat → Nat → Value) (hs : ad.spot = none) (hn : n ≤ cap)
      (hl : ∀ (e : Nat), (f e).length = sz) (hm : ∀ (e j : Nat) (c : AV), e < n → (f e)[j]? = some c → σ ad.block (ad.off + e * sz + j) = some (ys e j))
      (ho : ∀ (e j : Nat) (c : AV), e < n → (f e)[j]? = some c → (ys e j).oneCell' = true)
      (hv : ∀ (e j : Nat) (c : AV), e < n → (f e)[j]? = some c → V0 σ c (ys e j)) : V0 σ (.sl sz n f) (.slice (some ad) n cap)
  | slnil (sz n : Nat) (f : Nat → List AV) (A : Option Addr) (cap : Nat) (hl : ∀ (e : Nat), (f e).length = sz) (hn : n = 0) (ha : A = none → mkd (f n) = false) : V0 σ (.sl sz n f) (.slice A n cap)
  | pp (cs : List AV) (ad : Addr) (ys : Nat → Value) (hs : ad.spot = none) (hm : ∀ (j : Nat) (c : AV), cs[j]? = some c → σ ad.block (ad.off + j) = some (ys j))
      (hv : ∀ (j : Nat) (c : AV), cs[j]? = some c → V0 σ c (ys j)) : V0 σ (.pp cs) (.pointer (some ad))
  | pa (sz n : Nat) (f : Nat → List AV) (ad : Addr) (ys : Nat → Nat → Value) (hs : ad.spot = none)
      (hl : ∀ (e : Nat), (f e).length = sz) (hm : ∀ (e j : Nat) (c : AV), e < n → (f e)[j]? = some c → σ ad.block (ad.off + e * sz + j) = some (ys e j))
      (hv : ∀ (e j : Nat) (c : AV), e < n → (f e)[j]? = some c → V0 σ c (ys e j)) : V0 σ (.pa sz n f) (.pointer (some ad))

inductive V (σ : Store) (φ : Places) : AV → Value → Prop where
  | base {x : AV} {y : Value} (h : V0 σ x y) : V σ φ x y
  | agg {cs : List AV} {ys : Array Value} (hl : cs.length = ys.size) (h : ∀ (j : Nat) (c : AV) (y : Value), cs[j]? = some c → ys[j]? = some y → V σ φ c y) : V σ φ (.agg cs) (.agg ys)
  | tup {cs : List AV} {ys : Array Value} (hl : cs.length = ys.size) (h : ∀ (j : Nat) (c : AV) (y : Value), cs[j]? = some c → ys[j]? = some y → V σ φ c y) : V σ φ (.tup cs) (.tuple ys)
  | ptr {i o : Nat} {L : Lc} (h : φ i = some L) (hr : L.virt = false) : V σ φ (.ptr i o) (.pointer (some ⟨L.b, L.base + o, none⟩))
  | ap {i : Nat} {L : Lc} (h : φ i = some L) (hr : L.virt = false) : V σ φ (.ap i) (.pointer (some ⟨L.b, L.base, none⟩))
  | eptr {i e o : Nat} {L : Lc} (h : φ i = some L) (hr : L.virt = false) (he : e < L.n) : V σ φ (.eptr i e o) (.pointer (some ⟨L.b, L.base + e * L.sz + o, none⟩))
  | hs {i e n cap : Nat} {L : Lc} (h : φ i = some L) (hr : L.virt = false) (hn : n ≤ cap) (he : e + n ≤ L.n) (hx : L.n ≤ e + cap) (hc : L.base + e * L.sz + cap * L.sz ≤ L.size) :
      V σ φ (.hs i e n) (.slice (some ⟨L.b, L.base + e * L.sz, none⟩) n cap)
  | hsnil {i e n : Nat} {L : Lc} (A : Option Addr) (h : φ i = some L) (he : L.n ≤ e) (hn : n = 0) : V σ φ (.hs i e n) (.slice A 0 0)
  | fn {f : FuncId} {a b : List AV} {xs ys : Array Value} (ha : a.length = xs.size) (hb : b.length = ys.size)
      (h1 : ∀ (j : Nat) (c : AV) (y : Value), a[j]? = some c → xs[j]? = some y → V σ φ c y) (h2 : ∀ (j : Nat) (c : AV) (y : Value), b[j]? = some c → ys[j]? = some y → V σ φ c y) :
      V σ φ (.fn f a b) (.func (.func f) xs ys)
  | map {i : Nat} {L : Lc} (h : φ i = some L) (hr : L.virt = false) : V σ φ (.map i) (.map (some L.b))
  | its {i : Nat} {L : Lc} (h : φ i = some L) (hr : L.virt = false) : V σ φ (.its i) (.pointer (some ⟨L.b, 0, none⟩))

def Store.le (σ σ' : Store) : Prop := ∀ b o y, σ b o = some y → σ' b o = some y
def Places.le (φ φ' : Places) : Prop := ∀ i L, φ i = some L → φ' i = some L
theorem Store.le_refl (σ : Store) : σ.le σ := fun _ _ _ h => h
theorem Places.le_refl (φ : Places) : φ.le φ := fun _ _ h => h
theorem Store.le_trans {a b c : Store} (h : a.le b) (h' : b.le c) : a.le c := fun _ _ _ k => h' _ _ _ (h _ _ _ k)
theorem Places.le_trans {a b c : Places} (h : a.le b) (h' : b.le c) : a.le c := fun _ _ k => h' _ _ (h _ _ k)

theorem V0.mono {σ σ' : Store} (hs : σ.le σ') {x : AV} {y : Value} (h : V0 σ x y) : V0 σ' x y := by
  induction h with
  | any y => exact .any y
  | v x => exact .v x
  | sb b => exact .sb b
  | sl sz n f ad cap ys hsp hn hl hm ho _ ih => exact .sl sz n f ad cap ys hsp hn hl (fun e j c he hc => hs _ _ _ (hm e j c he hc)) ho ih
  | slnil sz n f A cap hl hn ha => exact .slnil sz n f A cap hl hn ha
  | pp cs ad ys hsp hm _ ih => exact .pp cs ad ys hsp (fun j c hc => hs _ _ _ (hm j c hc)) ih
  | pa sz n f ad ys hsp hl hm _ ih => exact .pa sz n f ad ys hsp hl (fun e j c he hc => hs _ _ _ (hm e j c he hc)) ih

theorem V.mono {σ σ' : Store} {φ φ' : Places} (hs : σ.le σ') (hp : φ.le φ') {x : AV} {y : Value} (h : V σ φ x y) : V σ' φ' x y := by
  induction h with
  | base h => exact .base (h.mono hs)
  | agg hl _ ih => exact .agg hl ih
  | tup hl _ ih => exact .tup hl ih
  | ptr h hr => exact .ptr (hp _ _ h) hr
  | ap h hr => exact .ap (hp _ _ h) hr
  | eptr h hr he => exact .eptr (hp _ _ h) hr he
  | hs h hr hn he hx hc => exact .hs (hp _ _ h) hr hn he hx hc
  | hsnil A h he hn => exact .hsnil A (hp _ _ h) he hn
  | fn ha hb _ _ i1 i2 => exact .fn ha hb i1 i2
  | map h hr => exact .map (hp _ _ h) hr
  | its h hr => exact .its (hp _ _ h) hr

theorem V.ren {σ : Store} {φ φ' : Places} {r : Nat → Nat} {x : AV} {y : Value} (h : V σ φ x y) : (∀ i ∈ x.ids, ∀ L, φ i = some L → φ' (r i) = some L) → V σ φ' (x.ren r) y := by
  have idsL_mem : ∀ (cs : List AV) (j : Nat) (c : AV), cs[j]? = some c → ∀ i ∈ c.ids, i ∈ AV.idsL cs := by
    intro cs
    induction cs with
    | nil => intro j c h; simp at h
    | cons d ds ih =>
      intro j c h i hi
      simp only [AV.idsL, List.mem_append]
      cases j with
      | zero => simp at h; subst h; exact .inl hi
      | succ j => exact .inr (ih j c (by simpa using h) i hi)
  have renL_get : ∀ (cs : List AV) (j : Nat) (c : AV), (AV.renL r cs)[j]? = some c → ∃ d, cs[j]? = some d ∧ c = d.ren r := by
    intro cs
    induction cs with
    | nil => intro j c h; simp [AV.renL] at h
    | cons d ds ih =>
      intro j c h
      cases j with
      | zero => simp [AV.renL] at h; exact ⟨d, by simp, h.symm⟩
      | succ j => simpa using ih j c (by simpa [AV.renL] using h)
  have renL_len : ∀ (cs : List AV), (AV.renL r cs).length = cs.length := by
    intro cs; induction cs with
    | nil => rfl
    | cons d ds ih => simp [AV.renL, ih]
  induction h with
  | base h =>
    intro _
    cases h <;> simp only [AV.ren] <;> first
      | exact .base (.any _) | exact .base (.v _) | exact .base (.sb _)
      | (apply V.base; apply V0.sl <;> assumption)
      | (apply V.base; apply V0.slnil <;> assumption)
      | (apply V.base; apply V0.pp <;> assumption)
      | (apply V.base; apply V0.pa <;> assumption)
  | @agg cs ys hl _ ih =>
    intro hr
    simp only [AV.ids] at hr
    refine .agg (by rw [renL_len]; exact hl) fun j c y hc hy => ?_
    obtain ⟨d, hd, rfl⟩ := renL_get cs j c hc
    exact ih j d y hd hy fun i hi => hr i (idsL_mem cs j d hd i hi)
  | @tup cs ys hl _ ih =>
    intro hr
    simp only [AV.ids] at hr
    refine .tup (by rw [renL_len]; exact hl) fun j c y hc hy => ?_
    obtain ⟨d, hd, rfl⟩ := renL_get cs j c hc
    exact ih j d y hd hy fun i hi => hr i (idsL_mem cs j d hd i hi)
  | ptr h hv => intro hr; exact .ptr (hr _ (by simp [AV.ids]) _ h) hv
  | ap h hv => intro hr; exact .ap (hr _ (by simp [AV.ids]) _ h) hv
  | eptr h hv he => intro hr; exact .eptr (hr _ (by simp [AV.ids]) _ h) hv he
  | hs h hv hn he hx hc => intro hr; exact .hs (hr _ (by simp [AV.ids]) _ h) hv hn he hx hc
  | hsnil A h he hn => intro hr; exact .hsnil A (hr _ (by simp [AV.ids]) _ h) he hn
  | @fn f a b xs ys ha hb _ _ i1 i2 =>
    intro hr
    simp only [AV.ids, List.mem_append] at hr
    refine .fn (by rw [renL_len]; exact ha) (by rw [renL_len]; exact hb) (fun j c y hc hy => ?_) (fun j c y hc hy => ?_)
    · obtain ⟨d, hd, rfl⟩ := renL_get a j c hc
      exact i1 j d y hd hy fun i hi => hr i (.inl (idsL_mem a j d hd i hi))
    · obtain ⟨d, hd, rfl⟩ := renL_get b j c hc
      exact i2 j d y hd hy fun i hi => hr i (.inr (idsL_mem b j d hd i hi))
  | map h hv => intro hr; exact .map (hr _ (by simp [AV.ids]) _ h) hv
  | its h hv => intro hr; exact .its (hr _ (by simp [AV.ids]) _ h) hv

theorem V_any {σ : Store} {φ : Places} (y : Value) : V σ φ .any y := .base (.any y)
theorem V_v {σ : Store} {φ : Places} (x : Value) : V σ φ (.v x) x := .base (.v x)
theorem V_sb {σ : Store} {φ : Places} (b : Bool) : V σ φ (.sb b) (.bool b) := .base (.sb b)
theorem V.v_eq {σ : Store} {φ : Places} {x y : Value} (h : V σ φ (.v x) y) : y = x := by cases h with | base h => cases h; rfl
theorem V.sb_eq {σ : Store} {φ : Places} {b : Bool} {y : Value} (h : V σ φ (.sb b) y) : y = .bool b := by cases h with | base h => cases h; rfl
theorem V.free {σ : Store} {φ : Places} {x : AV} {y : Value} (h : V σ φ x y) (hf : x.free = true) : V0 σ x y := by
  cases h <;> simp [AV.free] at hf
  case base h => exact h
theorem V_avOf {σ : Store} {φ : Places} (x : Value) : V σ φ (avOf x) x := by
  unfold avOf
  split
  · rename_i cs
    refine .agg (by simp) fun j c y hc hy => ?_
    simp only [List.getElem?_map, Array.getElem?_toList, hy, Option.map_some, Option.some.injEq] at hc
    subst hc
    exact V_v _
  · exact .fn (by simp) (by simp) (by simp) (by simp)
  · exact V_v _

def KC.eq : KC → KC → Bool
  | .i x, .i y => decide (x = y)
  | .s x, .s y => decide (x = y)
  | .b x, .b y => x == y
  | _, _ => false
def eqK : List KC → List KC → Bool
  | [], [] => true
  | x :: xs, y :: ys => match ys with
    | [] => (match xs with
      | [] => KC.eq x y
      | _ => false)
    | ys => KC.eq x y && eqK xs ys
  | _, _ => false
def kcV : Cel → KC → Value
  | .int k, .i n => .int k n
  | .str, .s t => .string t
  | .bool, .b c => .bool c
  | _, _ => .tuple #[]
def kcFit : Cel → KC → Bool
  | .int _, .i _ => true
  | .str, .s _ => true
  | .bool, .b _ => true
  | _, _ => false
def kFit : List Cel → List KC → Bool
  | [], [] => true
  | c :: cs, k :: ks => kcFit c k && kFit cs ks
  | _, _ => false
def kVs : List Cel → List KC → List Value
  | c :: cs, k :: ks => kcV c k :: kVs cs ks
  | _, _ => []
def kVal (ka : Bool) (cels : List Cel) (k : List KC) : Value := match ka with
  | true => .agg ⟨kVs cels k⟩
  | false => (kVs cels k).headD (.tuple #[])
def mvAt (σ : Store) (va : Bool) (cs : List AV) (v : Value) : Prop := match va with
  | true => ∃ ys : Array Value, v = .agg ys ∧ cs.length = ys.size ∧ ∀ (j : Nat) (c : AV) (y : Value), cs[j]? = some c → ys[j]? = some y → V0 σ c y
  | false => ∃ c, cs = [c] ∧ V0 σ c v
structure FrOk (fr : Nat × Nat) (n : Nat) : Prop where
  out : ∀ o, o < n → (decide (fr.1 ≤ o) && decide (o < fr.2)) = false
  le : fr.1 ≤ fr.2
instance (fr : Nat × Nat) (n : Nat) : CoeFun (FrOk fr n) (fun _ => ∀ o, o < n → (decide (fr.1 ≤ o) && decide (o < fr.2)) = false) := ⟨FrOk.out⟩
def World.row (w : World) (b : Nat) (c : Array Value) : Prop := ∃ T fr, w.heap[b]? = some (.cells c T fr) ∧ FrOk fr c.size

def blkAt (σ : Store) (φ : Places) (w : World) (L : Lc) : Blk → Prop
  | .row cs => ∃ c, World.row w L.b c ∧ c.size = L.size ∧ L.base + cs.length ≤ c.size ∧ ∀ (j : Nat) (x : AV), cs[j]? = some x → ∃ y, c[L.base + j]? = some y ∧ V σ φ x y
  | .arr sz n f => sz = L.sz ∧ n = L.n ∧ ∃ c, World.row w L.b c ∧ c.size = L.size ∧ L.base + n * sz ≤ c.size ∧
      ∀ (e : Nat), e < n → (f e).length = sz ∧ ∀ (j : Nat) (x : AV), (f e)[j]? = some x → ∃ y, c[L.base + e * sz + j]? = some y ∧ y.oneCell' = true ∧ V0 σ x y
  | .mp cels ka va n has val => ∃ es clock, w.heap[L.b]? = some (.map es clock) ∧ es.size = n ∧ (es.toList.map (·.key)).Nodup ∧
      (∀ e ∈ es.toList, ∃ k, kFit cels k = true ∧ e.key = kVal ka cels k ∧ has k = true ∧ mvAt σ va (val k) e.val) ∧
      (∀ k, kFit cels k = true → has k = true → ∃ e ∈ es.toList, e.key = kVal ka cels k)
  | .sit s pos => w.heap[L.b]? = some (.stringIter s pos)

def blkWf : Blk → Prop
  | .arr sz _ f => ∀ e, (f e).length = sz
  | _ => True

structure Ctx where
  w0 : World
  σ0 : Store
  B : Nat → Prop

abbrev Get := Nat → Option Blk

structure R (κ : Ctx) (σ : Store) (φ : Places) (get : Get) (w : World) : Prop where
  cell : ∀ b o y, σ b o = some y → w.cell? ⟨b, o, none⟩ = some y
  apart : ∀ i L, φ i = some L → L.virt = false → (get i).isSome → ∀ o, σ L.b o = none
  obj : ∀ i blk L, get i = some blk → φ i = some L → L.virt = false → blkAt σ φ w L blk
  dis : ∀ i j Li Lj, i ≠ j → (get i).isSome → (get j).isSome → φ i = some Li → φ j = some Lj → Li.virt = false → Lj.virt = false → Li.b ≠ Lj.b
  lt : ∀ i L, φ i = some L → L.virt = false → L.b < w.heap.size
  tape : w.tape = κ.w0.tape
  os : w.os = κ.w0.os
  output : w.output = κ.w0.output
  grow : κ.w0.heap.size ≤ w.heap.size
  old : ∀ b, b < κ.w0.heap.size → ¬ κ.B b → w.heap[b]? = κ.w0.heap[b]?
  store : ∀ b o y, σ b o = some y → κ.σ0 b o = some y ∨ κ.B b ∨ κ.w0.heap.size ≤ b
  mine : ∀ i L, φ i = some L → L.virt = false → κ.B L.b ∨ κ.w0.heap.size ≤ L.b
  base : κ.σ0.le σ
  wf : ∀ i b, get i = some b → blkWf b
  len : ∀ i L sz n f, get i = some (.arr sz n f) → φ i = some L → n = L.n

end Go.Eng

namespace Go.Eng
open Go

structure OpOut where
  val : AV
  upd : List (Nat × Option Blk) := []
  new : List Blk := []

abbrev TO := Tree OpOut
def one (x : AV) : TO := .leaf { val := x }

def sbyte (s : ByteArray) (i : Nat) : Int := ((s.data[i]?.getD 0).toNat : Int)

def szOf (P : Program) (t : TypeId) : Option Nat := (P.info? t).map (·.size)
def bytesOfT (P : Program) (t : TypeId) : Option Nat := (P.info? t).map (·.bytes)
def aggT (P : Program) (t : TypeId) : Option Bool :=
  match P.underlying t with
  | some (.struct _) => some true
  | some (.array _ _) => some true
  | some _ => some false
  | none => none
def zeroOf (P : Program) (t : TypeId) : Option (List AV) :=
  match (P.info? t).bind (·.zero) with
  | some z => some (z.cells.toList.map .v)
  | none => none

def oneC : Value → Bool
  | .agg _ => false
  | .tuple _ => false
  | _ => true
def cellOk : AV → Bool
  | .v x => oneC x
  | .any => false
  | .agg _ => false
  | .tup _ => false
  | _ => true
def cellsOf : AV → Option (List AV)
  | .agg cs => some cs
  | x => if cellOk x then some [x] else none
def wrapUp (agg : Bool) (cs : List AV) : Option AV :=
  match agg with
  | true => some (.agg cs)
  | false => match cs with
    | [c] => some c
    | _ => none

def mixV (c : Bool) : Value → Value → AV
  | .int k a, .int k' b => if k = k' then .v (.int k (bif c then a else b)) else .any
  | .bool a, .bool b => .sb (bif c then a else b)
  | .string a, .string b => .v (.string (bif c then a else b))
  | .slice none 0 0, .slice none 0 0 => .v (.slice none 0 0)
  | .pointer none, .pointer none => .v (.pointer none)
  | .map none, .map none => .v (.map none)
  | .nilFunc, .nilFunc => .v .nilFunc
  | _, _ => .any
def zsl (sz : Nat) : List AV := List.replicate sz (.v (.int .i64 0))
mutual
def mixAV (c : Bool) : AV → AV → AV
  | .v x, y =>
    match y with
    | .v y => mixV c x y
    | .sl sz n f => match x with
      | .slice none 0 0 => .sl sz (bif c then 0 else n) (fun k => bif c then zsl sz else f k)
      | _ => .any
    | .sb b => match x with
      | .bool a => .sb (bif c then a else b)
      | _ => .any
    | _ => .any
  | .sb a, y =>
    match y with
    | .sb b => .sb (bif c then a else b)
    | .v (.bool b) => .sb (bif c then a else b)
    | _ => .any
  | .agg a, y =>
    match y with
    | .agg b => if a.length = b.length then .agg (mixL c a b) else .any
    | _ => .any
  | .tup a, y =>
    match y with
    | .tup b => if a.length = b.length then .tup (mixL c a b) else .any
    | _ => .any
  | .ptr i o, y =>
    match y with
    | .ptr j u => if i = j ∧ o = u then .ptr i o else .any
    | _ => .any
  | .map i, y =>
    match y with
    | .map j => if i = j then .map i else .any
    | _ => .any
  | .sl sz n f, y =>
    match y with
    | .sl sz' n' f' => if sz = sz' then .sl sz (bif c then n else n') (fun k => bif c then f k else f' k) else .any
    | .v (.slice none 0 0) => .sl sz (bif c then n else 0) (fun k => bif c then f k else zsl sz)
    | _ => .any
  | .hs i e n, y =>
    match y with
    | .hs j u m => if i = j then .hs i (bif c then e else u) (bif c then n else m) else .any
    | _ => .any
  | _, _ => .any
def mixL (c : Bool) : List AV → List AV → List AV
  | x :: xs, y =>
    match y with
    | y :: ys => mixAV c x y :: mixL c xs ys
    | [] => []
  | [], _ => []
end

def chain (z : List AV) : Nat → List (List AV) → Nat → List AV
  | _, [] , _ => z
  | i, x :: xs, k => mixL (Nat.beq k i) x (chain z (i + 1) xs k)

def chunks (sz : Nat) : Nat → List AV → List (List AV)
  | 0, _ => []
  | n + 1, cs => cs.take sz :: chunks sz n (cs.drop sz)

def bitI (op : BinOp) (k : IntKind) (a b : Int) : Int :=
  match op with
  | .and => k.wrap ((BitVec.ofInt k.bits a &&& BitVec.ofInt k.bits b).toNat)
  | .or => k.wrap ((BitVec.ofInt k.bits a ||| BitVec.ofInt k.bits b).toNat)
  | .xor => k.wrap ((BitVec.ofInt k.bits a ^^^ BitVec.ofInt k.bits b).toNat)
  | _ => k.wrap ((BitVec.ofInt k.bits a &&& ~~~ BitVec.ofInt k.bits b).toNat)
def intE (op : BinOp) (k : IntKind) (a b : Int) : TO :=
  match op with
  | .add => one (.v (.int k (k.wrap (a + b))))
  | .sub => one (.v (.int k (k.wrap (a - b))))
  | .mul => one (.v (.int k (k.wrap (a * b))))
  | .quo => .chk (!decide (b = 0)) (one (.v (.int k (k.wrap (a.tdiv b)))))
  | .rem => .chk (!decide (b = 0)) (one (.v (.int k (a.tmod b))))
  | .and => one (.v (.int k (bitI .and k a b)))
  | .or => one (.v (.int k (bitI .or k a b)))
  | .xor => one (.v (.int k (bitI .xor k a b)))
  | .andNot => one (.v (.int k (bitI .andNot k a b)))
  | .eql => one (.sb (decide (a = b)))
  | .neq => one (.sb (!decide (a = b)))
  | .lss => one (.sb (decide (a < b)))
  | .leq => one (.sb (decide (a ≤ b)))
  | .gtr => one (.sb (decide (b < a)))
  | .geq => one (.sb (decide (b ≤ a)))
  | .shl | .shr => .fail
def shiftE (op : BinOp) (k : IntKind) (a y : Int) : TO :=
  match op with
  | .shl => .chk (decide (0 ≤ y)) (one (.v (.int k (k.wrap (a * 2 ^ (min y.toNat k.bits))))))
  | .shr => .chk (decide (0 ≤ y)) (one (.v (.int k (a.fdiv (2 ^ (min y.toNat k.bits))))))
  | _ => .fail
def strE (op : BinOp) (a b : ByteArray) : TO :=
  match op with
  | .add => .chk (decide (a.size + b.size ≤ 9223372036854775807)) (one (.v (.string (a ++ b))))
  | .eql => one (.sb (decide (a = b)))
  | .neq => one (.sb (!decide (a = b)))
  | .lss => one (.sb (Op.bytesLess a.data.toList b.data.toList))
  | .leq => one (.sb (Op.bytesLess a.data.toList b.data.toList || decide (a = b)))
  | .gtr => one (.sb (!(Op.bytesLess a.data.toList b.data.toList || decide (a = b))))
  | .geq => one (.sb (!Op.bytesLess a.data.toList b.data.toList))
  | _ => .fail
def isShift : BinOp → Bool
  | .shl | .shr => true
  | _ => false

inductive SK where
  | int | str | bool
def cellEq : SK → AV → AV → Option Bool
  | .int, .v (.int k a), .v (.int k' b) => if k = k' then some (decide (a = b)) else none
  | .str, .v (.string a), .v (.string b) => some (decide (a = b))
  | .bool, .v (.bool a), .v (.bool b) => some (a == b)
  | .bool, .sb a, .v (.bool b) => some (a == b)
  | .bool, .v (.bool a), .sb b => some (a == b)
  | .bool, .sb a, .sb b => some (a == b)
  | _, _, _ => none
def cellsEq : List SK → List AV → List AV → Option Bool
  | [], [], [] => some true
  | k :: ks, x :: xs, y :: ys =>
    match ks with
    | [] => (match xs, ys with
      | [], [] => cellEq k x y
      | _, _ => none)
    | ks => match cellEq k x y, cellsEq ks xs ys with
      | some a, some b => some (a && b)
      | _, _ => none
  | _, _, _ => none
def kindsFs (P : Program) (K : TypeId → Option (List SK)) : Nat → List Field → Option (List SK)
  | _, [] => some []
  | off, f :: fs =>
    if f.name ≠ "_" ∧ f.offset = off then
      match K f.type with
      | some ks => if szOf P f.type = some ks.length then
          match kindsFs P K (off + ks.length) fs with
          | some r => some (ks ++ r)
          | none => none
        else none
      | none => none
    else none
def kindsT (P : Program) : Nat → TypeId → Option (List SK)
  | 0, _ => none
  | d + 1, t =>
    match P.underlying t with
    | some (.int _) => some [.int]
    | some .string => some [.str]
    | some .bool => some [.bool]
    | some (.struct fs) => if P.stoodInHeld t then none else kindsFs P (kindsT P d) 0 fs.toList
    | _ => none
def isPtr : AV → Bool
  | .ptr _ _ => true
  | .ap _ => true
  | .eptr _ _ _ => true
  | .pp _ => true
  | .pa _ _ _ => true
  | _ => false
def boolOf : AV → Option Bool
  | .sb b => some b
  | .v (.bool b) => some b
  | _ => none
def eqE (P : Program) (t : TypeId) (x y : AV) : Option AV :=
  match P.underlying t with
  | some .bool =>
    match boolOf x, boolOf y with
    | some a, some b => some (.sb (a == b))
    | _, _ => none
  | some (.pointer _) =>
    match y with
    | .v (.pointer none) =>
      match x with
      | .v (.pointer none) => some (.v (.bool true))
      | x => if isPtr x then some (.v (.bool false)) else none
    | _ => none
  | some (.slice _) =>
    match x, y with
    | .v (.slice none _ _), .v (.slice none _ _) => some (.v (.bool true))
    | .hs _ _ (_ + 1), .v (.slice none _ _) => some (.v (.bool false))
    | _, _ => none
  | some (.map _ _) =>
    match x, y with
    | .map _, .v (.map none) => some (.v (.bool false))
    | .v (.map none), .v (.map none) => some (.v (.bool true))
    | _, _ => none
  | some (.func _ _ _) =>
    match x, y with
    | .fn _ _ _, .v .nilFunc => some (.v (.bool false))
    | .v .nilFunc, .v .nilFunc => some (.v (.bool true))
    | _, _ => none
  | some (.struct _) =>
    match x, y with
    | .agg xs, .agg ys =>
      match kindsT P 20 t with
      | some ks => match cellsEq ks xs ys with
        | some b => some (.sb b)
        | none => none
      | none => none
    | _, _ => none
  | _ => none
def hsNil (P : Program) (t : TypeId) (x y : AV) : Option (Nat × Nat × Nat) :=
  match P.underlying t with
  | some (.slice _) =>
    match x, y with
    | .hs i e n, .v (.slice none _ _) => some (i, e, n)
    | _, _ => none
  | _ => none
def longer (get : Nat → Option Blk) (i e : Nat) : Bool := match get i with
  | some (.arr _ N _) => Nat.blt e N
  | _ => false
def slNil (P : Program) (t : TypeId) (x y : AV) : Option Bool :=
  match P.underlying t with
  | some (.slice _) =>
    match x, y with
    | .sl _ n f, .v (.slice none _ _) => some (Nat.blt 0 n || mkd (f n))
    | _, _ => none
  | _ => none
def eqT (P : Program) (get : Nat → Option Blk) (t : TypeId) (x y : AV) : Tree AV :=
  match hsNil P t x y with
  | some n => .chk (Nat.blt 0 n.2.2 || longer get n.1 n.2.1) (.leaf (.v (.bool false)))
  | none => match slNil P t x y with
    | some b => .chk b (.leaf (.v (.bool false)))
    | none => .ofOption (eqE P t x y)
def notE : AV → Option AV
  | .sb b => some (.sb (!b))
  | .v (.bool b) => some (.v (.bool (!b)))
  | _ => none

def binE (P : Program) (get : Nat → Option Blk) (op : BinOp) (t : TypeId) (x y : AV) : TO :=
  match x, y with
  | .v (.int k a), .v (.int k' b) =>
    match isShift op with
    | true => shiftE op k a b
    | false => if k = k' then intE op k a b else .fail
  | .v (.string a), .v (.string b) => strE op a b
  | x, y =>
    match op with
    | .eql => .map (fun a => { val := a }) (eqT P get t x y)
    | .neq => .map (fun a => { val := a }) ((eqT P get t x y).bind fun a => .ofOption (notE a))
    | _ => .fail

def unE (op : UnOp) (x : AV) : TO :=
  match op, x with
  | .not, x => .map (fun a => { val := a }) (.ofOption (notE x))
  | .neg, .v (.int k n) => one (.v (.int k (k.wrap (0 - n))))
  | .xor, .v (.int k n) => one (.v (.int k (bitI .xor k (if k.signed then -1 else k.max) n)))
  | _, _ => .fail

def allocE (P : Program) (nb : Nat) (t : TypeId) (cells : List AV) : TO :=
  match P.underlying t with
  | some (.array n elem) =>
    match szOf P elem with
    | some sz => if cells.all AV.free && cells.all cellOk && n * sz == cells.length && (cells.take sz).length == sz then .leaf { val := .ap nb, new := [.arr sz n (chain (cells.take sz) 0 (chunks sz n cells))] } else .fail
    | none => .fail
  | some _ => .leaf { val := .ptr nb 0, new := [.row cells] }
  | none => .fail

def flatE (f : Nat → List AV) (n : Nat) : List AV := (List.range n).flatMap f

def cellsAt (get : Get) (m : Nat) : AV → Option (List AV)
  | .ptr i o =>
    match get i with
    | some (.row cs) => if decide (o + m ≤ cs.length) then some ((cs.drop o).take m) else none
    | _ => none
  | .eptr i e o =>
    match get i with
    | some (.arr _ _ f) => if decide (o + m ≤ (f e).length) then some (((f e).drop o).take m) else none
    | _ => none
  | .ap i =>
    match get i with
    | some (.arr sz n f) => if decide (n * sz = m) then some (flatE f n) else none
    | _ => none
  | .pp cs => if decide (m ≤ cs.length) then some (cs.take m) else none
  | _ => none
def loadE (P : Program) (get : Get) (t : TypeId) (p : AV) : Option AV :=
  match szOf P t, aggT P t with
  | some m, some a => if a || m == 1 then (cellsAt get m p).bind (wrapUp a) else none
  | _, _ => none
def storeE (P : Program) (get : Get) (t : TypeId) (p x : AV) : Option (Nat × Option Blk) :=
  match szOf P t, cellsOf x with
  | some m, some vs =>
    if vs.length = m && vs.all cellOk then
      match p with
      | .ptr i o =>
        match get i with
        | some (.row cs) => if decide (o + m ≤ cs.length) then some (i, some (.row (cs.take o ++ vs ++ cs.drop (o + m)))) else none
        | _ => none
      | .eptr i e o =>
        match get i with
        | some (.arr sz n f) => if decide (o + m ≤ sz) && vs.all AV.free then
            some (i, some (.arr sz n fun k => mixL (Nat.beq k e) ((f e).take o ++ vs ++ (f e).drop (o + m)) (f k))) else none
        | _ => none
      | .ap i =>
        match get i with
        | some (.arr sz n _) => if decide (n * sz = m) && vs.all AV.free && decide ((vs.take sz).length = sz) then some (i, some (.arr sz n (chain (vs.take sz) 0 (chunks sz n vs)))) else none
        | _ => none
      | _ => none
    else none
  | _, _ => none

def fieldOf (P : Program) (s : TypeId) (f : Nat) : Option Field :=
  match P.underlying s with
  | some (.struct fields) => fields[f]?
  | _ => none
def moveP (off : Nat) : AV → Option AV
  | .ptr i o => some (.ptr i (o + off))
  | .eptr i e o => some (.eptr i e (o + off))
  | .pp cs => some (.pp (cs.drop off))
  | _ => none
def partE (P : Program) (t : TypeId) (cs : List AV) (off : Nat) : Option AV :=
  match szOf P t, aggT P t with
  | some m, some true => if decide (off + m ≤ cs.length) then some (.agg ((cs.drop off).take m)) else none
  | some _, some false => cs[off]?
  | _, _ => none

def elemOfT (P : Program) (t : TypeId) : Option TypeId :=
  match P.underlying t with
  | some (.slice e) => some e
  | _ => none
def arrOfT (P : Program) (t : TypeId) : Option (Nat × TypeId) :=
  match P.underlying t with
  | some (.array n e) => some (n, e)
  | _ => none

def indexAddrE (P : Program) (get : Get) (t : TypeId) (x ix : AV) : TO :=
  match ix with
  | .v (.int _ i) =>
    match elemOfT P t with
    | some elem =>
      match x with
      | .sl sz n f => if szOf P elem = some sz then .chk (decide (0 ≤ i) && decide (i < (n : Int))) (one (.pp (f i.toNat))) else .fail
      | .hs id e n =>
        match get id with
        | some (.arr sz _ _) => if szOf P elem = some sz then .chk (decide (0 ≤ i) && decide (i < (n : Int))) (one (.eptr id (e + i.toNat) 0)) else .fail
        | _ => .fail
      | _ => .fail
    | none =>
      match arrOfT P t with
      | some (len, elem) =>
        match szOf P elem with
        | some sz' =>
          match x with
          | .ap id =>
            match get id with
            | some (.arr sz n _) => if sz = sz' ∧ n = len then .chk (decide (0 ≤ i) && decide (i < (n : Int))) (one (.eptr id i.toNat 0)) else .fail
            | _ => .fail
          | .pa sz n f => if sz = sz' ∧ n = len then .chk (decide (0 ≤ i) && decide (i < (n : Int))) (one (.pp (f i.toNat))) else .fail
          | .ptr id o => .chk (decide (0 ≤ i) && decide (i < (len : Int))) (one (.ptr id (o + i.toNat * sz')))
          | .pp cs => .chk (decide (0 ≤ i) && decide (i < (len : Int))) (one (.pp (cs.drop (i.toNat * sz'))))
          | _ => .fail
        | none => .fail
      | none => .fail
  | _ => .fail

def indexE (P : Program) (t : TypeId) (x ix : AV) : TO :=
  match ix with
  | .v (.int _ i) =>
    match x with
    | .v (.string s) =>
      match P.underlying t with
      | some .string => .chk (decide (0 ≤ i) && decide (i < (s.size : Int))) (one (.v (.int .u8 (sbyte s i.toNat))))
      | _ => .fail
    | .agg cs =>
      match arrOfT P t with
      | some (len, elem) =>
        match szOf P elem, aggT P elem with
        | some sz, some a =>
          if len * sz = cs.length then
            .chk (decide (0 ≤ i) && decide (i < (len : Int))) (.map (fun x => { val := x }) (.ofOption (wrapUp a (chain (cs.take sz) 0 (chunks sz len cs) i.toNat))))
          else .fail
        | _, _ => .fail
      | none => .fail
    | _ => .fail
  | _ => .fail

def nilSlice : AV := .v (.slice none 0 0)
def bound (d : Nat) : Option AV → Option Int
  | none => some (d : Int)
  | some (.v (.int _ i)) => some i
  | _ => none
def sliceE (P : Program) (ip : Bool) (nb : Nat) (get : Get) (t : TypeId) (x : AV) (lo hi mx : Option AV) : TO :=
  match mx with
  | some (.v (.int _ m)) =>
    match ip with
    | false =>
      match m with
      | 0 =>
        match bound 0 hi, bound 0 lo, elemOfT P t with
        | some 0, some 0, some elem =>
          match hi, szOf P elem, zeroOf P elem with
          | some _, some sz, some z =>
            if z.length ≠ sz then .fail else
            match x with
            | .sl _ _ _ => .leaf { val := .hs nb 0 0, new := [.arr sz 0 fun _ => z] }
            | .hs _ _ _ => .leaf { val := .hs nb 0 0, new := [.arr sz 0 fun _ => z] }
            | .v (.slice none 0 0) => one nilSlice
            | _ => .fail
          | _, _, _ => .fail
        | _, _, _ => .fail
      | _ => .fail
    | true =>
      -- the slice itself is not used: that the bounds hold is all
      match x with
      | .hs id _ n =>
        match get id, bound 0 lo, bound n hi, elemOfT P t with
        | some (.arr sz _ _), some l, some h, some elem =>
          if szOf P elem = some sz ∧ hi.isSome = true then .chk (decide (0 ≤ l) && decide (l ≤ h) && decide (h ≤ m) && decide (m ≤ (n : Int))) (one .any) else .fail
        | _, _, _, _ => .fail
      | _ => .fail
  | some _ => .fail
  | none =>
    match x with
    | .v (.string s) =>
      match P.underlying t with
      | some .string =>
        match bound 0 lo, bound s.size hi with
        | some l, some h => .chk (decide (0 ≤ l) && decide (l ≤ h) && decide (h ≤ (s.size : Int))) (one (.v (.string (s.extract l.toNat h.toNat))))
        | _, _ => .fail
      | _ => .fail
    | .v (.slice none 0 0) =>
      match bound 0 lo, bound 0 hi, elemOfT P t with
      | some l, some h, some elem => if (szOf P elem).isSome then .chk (decide (0 ≤ l) && decide (l ≤ h) && decide (h ≤ 0)) (one nilSlice) else .fail
      | _, _, _ => .fail
    | .sl sz n f =>
      match bound 0 lo, bound n hi, elemOfT P t with
      | some l, some h, some elem =>
        if szOf P elem = some sz then .chk (decide (0 ≤ l) && decide (l ≤ h) && decide (h ≤ (n : Int))) (one (.sl sz (h.toNat - l.toNat) fun k => f (l.toNat + k))) else .fail
      | _, _, _ => .fail
    | .hs id e n =>
      match get id, bound 0 lo, bound n hi, elemOfT P t with
      | some (.arr sz N _), some l, some h, some elem =>
        if szOf P elem = some sz then
          .chk (decide (0 ≤ l) && decide (l ≤ h) && (bif ip then decide (e + h.toNat ≤ N) else decide (h ≤ (n : Int)))) (one (.hs id (e + l.toNat) (h.toNat - l.toNat)))
        else .fail
      | _, _, _, _ => .fail
    | .ap id =>
      match get id, arrOfT P t with
      | some (.arr sz n _), some (len, elem) =>
        match bound 0 lo, bound len hi with
        | some l, some h =>
          if szOf P elem = some sz ∧ n = len then .chk (decide (0 ≤ l) && decide (l ≤ h) && decide (h ≤ (n : Int))) (one (.hs id l.toNat (h.toNat - l.toNat))) else .fail
        | _, _ => .fail
      | _, _ => .fail
    | _ => .fail

def source (get : Get) : AV → Option (Nat × (Nat → List AV))
  | .v (.string s) => some (s.size, fun j => [.v (.int .u8 (sbyte s j))])
  | .sl _ n f => some (n, f)
  | .hs id e n =>
    match get id with
    | some (.arr _ _ f) => some (n, fun j => f (e + j))
    | _ => none
  | _ => none
def srcSz (get : Get) : AV → Option Nat
  | .v (.string _) => some 1
  | .sl sz _ _ => some sz
  | .hs id _ _ =>
    match get id with
    | some (.arr sz _ _) => some sz
    | _ => none
  | _ => none
def roomOk (bytes n : Nat) : Bool := decide ((2 * n + 512) * (bytes + 1) ≤ 281474976710656)

def zeroLenOk (P : Program) (t : TypeId) (sz : Nat) : Bool :=
  match zeroOf P t with
  | some z => Nat.beq z.length sz
  | none => false
def isIntD : TypeDesc → Bool
  | .int _ => true
  | _ => false
def isNilS : AV → Bool
  | .v (.slice none 0 0) => true
  | _ => false
def sameBlk (id : Nat) : AV → Bool
  | .hs j _ _ => Nat.beq j id
  | _ => false
def appendC (ip : Bool) (nb : Nat) (get : Get) (sz bytes : Nat) (s x : AV) : TO :=
  match isNilS x with
  | true =>
    match isNilS s with
    | true => one nilSlice
    | false => match s with
      | .hs id e n => one (.hs id e n)
      | _ => .fail
  | false =>
    match source get x with
    | some (k, g) =>
      if srcSz get x = some sz then
        match isNilS s with
        | true => .chk (roomOk bytes k) (.leaf { val := .hs nb 0 k, new := [.arr sz k g] })
        | false =>
          match s with
          | .hs id e n =>
            match get id with
            | some (.arr sz' N f) =>
              if sz' = sz then
                match ip with
                | true =>
                  if sameBlk id x then .chk (decide (e + n + k ≤ N)) (.leaf { val := .hs id e (n + k), upd := [(id, some (.arr sz N fun j => mixL (decide (e + n ≤ j) && decide (j < e + n + k)) (g (j - (e + n))) (f j)))] }) else .fail
                | false => .chk (roomOk bytes (n + k)) (.leaf { val := .hs nb 0 (n + k), upd := [(id, none)], new := [.arr sz (n + k) fun j => mixL (decide (j < n)) (f (e + j)) (g (j - n))] })
              else .fail
            | _ => .fail
          | _ => .fail
      else .fail
    | none => .fail
def appendE (P : Program) (ip : Bool) (nb : Nat) (get : Get) (ts : Array TypeId) (s x : AV) : TO :=
  match ts[0]?, ts[1]? with
  | some t, some tx =>
    match elemOfT P t with
    | some elem =>
      match szOf P elem, bytesOfT P elem, P.underlying tx with
      | some sz, some bytes, some tu =>
        match isIntD tu || !zeroLenOk P elem sz with
        | true => .fail
        | false => appendC ip nb get sz bytes s x
      | _, _, _ => .fail
    | none => .fail
  | _, _ => .fail

def copyE (P : Program) (get : Get) (ts : Array TypeId) (d x : AV) : TO :=
  match ts[0]? with
  | some t =>
    match elemOfT P t with
    | some elem =>
      match szOf P elem, source get x, d with
      | some sz, some (k, g), .hs id e n =>
        match get id with
        | some (.arr sz' N f) =>
          if sz' = sz ∧ srcSz get x = some sz then
            .leaf { val := .v (.int .i64 (Nat.min k n : Nat)), upd := [(id, some (.arr sz N fun j => mixL (decide (e ≤ j) && decide (j < e + Nat.min k n)) (g (j - e)) (f j)))] }
          else .fail
        | _ => .fail
      | _, _, _ => .fail
    | none => .fail
  | none => .fail

def clearE (P : Program) (get : Get) (ts : Array TypeId) (d : AV) : TO :=
  match ts[0]? with
  | some t =>
    match elemOfT P t with
    | some elem =>
      match zeroOf P elem, szOf P elem, d with
      | some z, some sz, .hs id e n =>
        match get id with
        | some (.arr sz' N f) =>
          if sz' = sz ∧ z.length = sz ∧ z.all cellOk = true then
            .leaf { val := .any, upd := [(id, some (.arr sz N fun j => mixL (decide (e ≤ j) && decide (j < e + n)) z (f j)))] }
          else .fail
        | _ => .fail
      | _, _, _ => .fail
    | none => .fail
  | none => .fail

def lenE (P : Program) (get : Get) (ts : Array TypeId) (x : AV) : TO :=
  match ts[0]? with
  | some t =>
    match P.underlying t, x with
    | some .string, .v (.string s) => one (.v (.int .i64 (s.size : Int)))
    | some (.array n _), _ => one (.v (.int .i64 (n : Int)))
    | some (.slice _), .v (.slice none 0 0) => one (.v (.int .i64 0))
    | some (.slice _), .sl _ n _ => one (.v (.int .i64 (n : Int)))
    | some (.slice _), .hs _ _ n => one (.v (.int .i64 (n : Int)))
    | some (.map _ _), .v (.map none) => one (.v (.int .i64 0))
    | some (.map _ _), .map i =>
      match get i with
      | some (.mp _ _ _ n _ _) => one (.v (.int .i64 (n : Int)))
      | _ => .fail
    | _, _ => .fail
  | none => .fail

def minE : AV → List AV → Option AV
  | x, [] => match x with
    | .v (.int k a) => some (.v (.int k a))
    | _ => none
  | x, y :: rest => match x, y with
    | .v (.int k a), .v (.int _ b) => minE (.v (.int k (if b < a then b else a))) rest
    | _, _ => none
def maxE : AV → List AV → Option AV
  | x, [] => match x with
    | .v (.int k a) => some (.v (.int k a))
    | _ => none
  | x, y :: rest => match x, y with
    | .v (.int k a), .v (.int _ b) => maxE (.v (.int k (if b > a then b else a))) rest
    | _, _ => none

def makeSliceE (P : Program) (nb : Nat) (t : TypeId) (l c : AV) : TO :=
  match elemOfT P t, l, c with
  | some elem, .v (.int _ l), .v (.int _ c) =>
    match szOf P elem, bytesOfT P elem, zeroOf P elem with
    | some sz, some bytes, some z =>
      if z.length = sz ∧ z.all cellOk = true then
        .chk (decide (0 ≤ l) && decide (l ≤ c) && roomOk bytes c.toNat) (.leaf { val := .hs nb 0 l.toNat, new := [.arr sz l.toNat fun _ => z] })
      else .fail
    | _, _, _ => .fail
  | _, _, _ => .fail

def byteIn : List AV → UInt8
  | [.v (.int .u8 n)] => UInt8.ofNat n.toNat
  | _ => 0
def isByte : List AV → Bool
  | [.v (.int .u8 _)] => true
  | _ => false
def textOf (n : Nat) (f : Nat → List AV) : ByteArray := ⟨((List.range n).map fun j => byteIn (f j)).toArray⟩
def allBytes (n : Nat) (f : Nat → List AV) : Bool := (List.range n).all fun j => isByte (f j)
inductive CK where
  | int (k : IntKind) | str | bytes (e : TypeId) | other
def convKind (P : Program) (t : TypeId) : CK :=
  match P.underlying t with
  | some (.int k) => .int k
  | some .string => .str
  | some (.slice e) => match P.underlying e with
    | some (.int .u8) => .bytes e
    | _ => .other
  | _ => .other
def isSlAV : AV → Bool
  | .sl _ _ _ => true
  | .hs _ _ _ => true
  | _ => false
def convE (P : Program) (nb : Nat) (get : Get) (s d : TypeId) (x : AV) : TO :=
  match convKind P s, convKind P d, x with
  | .int _, .int k, .v (.int _ n) => one (.v (.int k (k.wrap n)))
  | .int _, .str, .v (.int _ n) => one (.v (.string (Utf8.encode n)))
  | .str, .str, .v (.string s) => one (.v (.string s))
  | .str, .bytes _, .v (.string s) => .br (Nat.beq s.size 0) (one (.sl 1 0 fun j => [.v (.int .u8 (sbyte s j))])) (.leaf { val := .hs nb 0 s.size, new := [.arr 1 s.size fun j => [.v (.int .u8 (sbyte s j))]] })
  | .bytes _, .str, .v (.slice none 0 0) => one (.v (.string ⟨#[]⟩))
  | .bytes _, .bytes _, .hs i e (n + 1) => match Nat.beq s d, get i with
    | true, some (.arr sz N f) => .leaf { val := .hs i e (n + 1), upd := [(i, some (.arr sz N f))] }
    | _, _ => .fail
  | .bytes _, .str, x =>
    match source get x with
    | some (n, f) => if srcSz get x = some 1 ∧ isSlAV x = true then .chk (allBytes n f) (one (.v (.string (textOf n f)))) else .fail
    | none => .fail
  | _, _, _ => .fail

def fillE (place : Nat → Option (Nat × Nat)) (cells : List AV) : List (Nat × AV) → Option (List AV)
  | [] => some cells
  | (i, v) :: rest =>
    match place i, cellsOf v with
    | some (off, size), some vs => if vs.length = size ∧ off + size ≤ cells.length then fillE place (cells.take off ++ vs ++ cells.drop (off + size)) rest else none
    | _, _ => none
def fieldPlaces (P : Program) : List Field → Option (List (Nat × Nat))
  | [] => some []
  | f :: fs => match szOf P f.type, fieldPlaces P fs with
    | some s, some r => some ((f.offset, s) :: r)
    | _, _ => none
def buildE (P : Program) (t : TypeId) (parts : List (Nat × AV)) : Option AV :=
  match zeroOf P t, P.underlying t with
  | some z, some (.struct fs) => (fieldPlaces P fs.toList).bind fun ps => (fillE (fun i => ps[i]?) z parts).map .agg
  | some z, some (.array _ e) => (szOf P e).bind fun sz => (fillE (fun i => some (i * sz, sz)) z parts).map .agg
  | _, _ => none
def repCells (n : Nat) (z : List AV) : List AV := (List.range n).flatMap fun _ => z
def buildSliceE (P : Program) (nb : Nat) (t : TypeId) (len : Nat) (parts : List (Nat × AV)) : TO :=
  match elemOfT P t with
  | some elem =>
    match szOf P elem, zeroOf P elem with
    | some sz, some z =>
      if z.length = sz ∧ len * sz ≤ 16777216 then
        match fillE (fun i => some (i * sz, sz)) (repCells len z) parts with
        | some cs => if cs.all AV.free && cs.all cellOk && cs.length == len * sz then .leaf { val := .hs nb 0 len, new := [.arr sz len (chain z 0 (chunks sz len cs))] } else .fail
        | none => .fail
      else .fail
    | _, _ => .fail
  | none => .fail

def dropI (j : Nat) (get : Get) : Get := fun k => match Nat.beq k j with
  | true => none
  | false => get k
def goneG : List Nat → Get → Get
  | [], get => get
  | j :: js, get => goneG js (dropI j get)
def frzL : Get → List AV → Option (List AV × List Nat)
  | _, [] => some ([], [])
  | get, x :: xs => match x with
    | .hs j e n => match get j with
      | some (.arr sz _ f) => match mkd (f (e + n)) with
        | false => match frzL (dropI j get) xs with
          | some (ys, js) => some (.sl sz n (fun k => f (e + k)) :: ys, j :: js)
          | none => none
        | true => none
      | _ => none
    | x => match x.free with
      | true => match frzL get xs with
        | some (ys, js) => some (x :: ys, js)
        | none => none
      | false => none
def frzV (get : Get) : AV → Option (AV × List Nat)
  | .agg vs => match frzL get vs with
    | some (ws, js) => some (.agg ws, js)
    | none => none
  | x => match frzL get [x] with
    | some ([w], js) => some (w, js)
    | _ => none
def frzP : Get → List (Nat × AV) → Option (List (Nat × AV) × List Nat)
  | _, [] => some ([], [])
  | get, (i, x) :: r => match frzV get x with
    | some (w, js) => match frzP (goneG js get) r with
      | some (ws, js') => some ((i, w) :: ws, js ++ js')
      | none => none
    | none => none
def isHs : AV → Bool
  | .hs _ _ _ => true
  | _ => false
def hasHs : AV → Bool
  | .agg vs => vs.any isHs
  | x => isHs x
def goneU (js : List Nat) : List (Nat × Option Blk) := js.map fun j => (j, none)
def storeF (P : Program) (get : Get) (t : TypeId) (p x : AV) : TO :=
  match storeE P get t p x with
  | some u => .leaf { val := .any, upd := [u] }
  | none => match frzV get x with
    | some (w, js) => match storeE P (goneG js get) t p w with
      | some u => .leaf { val := .any, upd := goneU js ++ [u] }
      | none => .fail
    | none => .fail
def buildSliceF (P : Program) (nb : Nat) (get : Get) (t : TypeId) (len : Nat) (parts : List (Nat × AV)) : TO :=
  match parts.any fun q => hasHs q.2 with
  | false => buildSliceE P nb t len parts
  | true => match frzP get parts with
    | some (ws, js) => (buildSliceE P nb t len ws).bind fun o => .leaf { val := o.val, upd := goneU js ++ o.upd, new := o.new }
    | none => .fail

def celsFs (P : Program) (K : TypeId → Option (List Cel)) : List Field → Option (List Cel)
  | [] => some []
  | f :: fs => match K f.type, celsFs P K fs with
    | some a, some b => some (a ++ b)
    | _, _ => none
def celsT (P : Program) : Nat → TypeId → Option (List Cel)
  | 0, _ => none
  | d + 1, t =>
    match P.underlying t with
    | some (.int k) => some [.int k]
    | some .string => some [.str]
    | some .bool => some [.bool]
    | some (.struct fs) => celsFs P (celsT P d) fs.toList
    | _ => none
def sameKind : Cel → SK → Bool
  | .int _, .int => true
  | .str, .str => true
  | .bool, .bool => true
  | _, _ => false
def sameKinds : List Cel → List SK → Bool
  | [], [] => true
  | c :: cs, k :: ks => sameKind c k && sameKinds cs ks
  | _, _ => false
def mapT (P : Program) (t : TypeId) : Option (TypeId × TypeId) :=
  match P.underlying t with
  | some (.map k v) => some (k, v)
  | _ => none
def zeroV (P : Program) (t : TypeId) (va : Bool) : Option (List AV) :=
  match (P.info? t).bind (·.zero) with
  | some (.agg ys) => match va with
    | true => some (ys.toList.map .v)
    | false => none
  | some x => match va with
    | true => none
    | false => some [.v x]
  | none => none
def makeMapE (P : Program) (nb : Nat) (t : TypeId) (reserve : Option AV) : TO :=
  match reserve with
  | none => match mapT P t with
    | some (kt, vt) => match celsT P 20 kt, aggT P kt, aggT P vt with
      | some cels, some ka, some va => match zeroV P vt va with
        | some z => .leaf { val := .map nb, new := [.mp cels ka va 0 (fun _ => false) (fun _ => z)] }
        | none => .fail
      | _, _, _ => .fail
    | none => .fail
  | some _ => .fail
def kcOf : List Cel → List AV → Option (List KC)
  | [], [] => some []
  | .int k :: cs, .v (.int k' n) :: xs => if k' = k then (kcOf cs xs).map fun r => .i n :: r else none
  | .str :: cs, .v (.string t) :: xs => (kcOf cs xs).map fun r => .s t :: r
  | .bool :: cs, .v (.bool c) :: xs => (kcOf cs xs).map fun r => .b c :: r
  | .bool :: cs, .sb c :: xs => (kcOf cs xs).map fun r => .b c :: r
  | _, _ => none
def keyIn (ka : Bool) (cels : List Cel) (x : AV) : Option (List KC) :=
  match ka with
  | true => match x with
    | .agg cs => kcOf cels cs
    | _ => none
  | false => kcOf cels [x]
def keyFits (P : Program) (kt : TypeId) (cels : List Cel) (ka : Bool) : Bool :=
  match kindsT P 20 kt, aggT P kt with
  | some ks, some a => sameKinds cels ks && a == ka
  | _, _ => false
def mapAns (va ok : Bool) (cs : List AV) (there : Bool) : TO :=
  match wrapUp va cs with
  | some x => match ok with
    | true => one (.tup [x, .v (.bool there)])
    | false => one x
  | none => .fail
def lookupE (P : Program) (get : Get) (t : TypeId) (x ix : AV) (ok : Bool) : TO :=
  match mapT P t with
  | some (kt, vt) =>
    match aggT P vt with
    | some va =>
     match zeroV P vt va with
     | some z =>
      match x with
      | .map i => match get i with
        | some (.mp cels ka va' _ has val) => match keyFits P kt cels ka && va == va' with
          | true => match keyIn ka cels ix with
            | some k => .br (has k) (mapAns va ok (val k) true) (mapAns va ok z false)
            | none => .fail
          | false => .fail
        | _ => .fail
      | .v (.map none) => match celsT P 20 kt, aggT P kt with
        | some cels, some ka => match keyFits P kt cels ka, keyIn ka cels ix with
          | true, some _ => mapAns va ok z false
          | _, _ => .fail
        | _, _ => .fail
      | _ => .fail
     | none => .fail
    | none => .fail
  | none => .fail
def mixMV (c : Bool) (x y : AV) : AV := match mixAV c x y with
  | .any => bif c then x else y
  | z => z
def mixML (c : Bool) : List AV → List AV → List AV
  | x :: xs, y :: ys => mixMV c x y :: mixML c xs ys
  | _, _ => []
def eitherL (c : Bool) (xs ys : List AV) : List AV := match Nat.beq xs.length ys.length with
  | true => mixML c xs ys
  | false => bif c then xs else ys
def cellsFor (va : Bool) (x : AV) : Option (List AV) :=
  match va with
  | true => match x with
    | .agg cs => if cs.all AV.free then some cs else none
    | _ => none
  | false => if x.free && cellOk x then some [x] else none
def mapUpdE (P : Program) (get : Get) (t : TypeId) (m k x : AV) : TO :=
  match mapT P t with
  | some (kt, _) =>
    match m with
    | .map i => match get i with
      | some (.mp cels ka va n has val) => match keyFits P kt cels ka && (ka || Nat.beq cels.length 1), keyIn ka cels k, cellsFor va x with
        | true, some q, some cs => .leaf { val := .any, upd := [(i, some (.mp cels ka va (bif has q then n else n + 1) (fun p => eqK p q || has p) (fun p => eitherL (eqK p q) cs (val p))))] }
        | _, _, _ => .fail
      | _ => .fail
    | _ => .fail
  | none => .fail
def rangeE (P : Program) (nb : Nat) (t : TypeId) (x : AV) : TO :=
  match P.underlying t, x with
  | some .string, .v (.string s) => .leaf { val := .its nb, new := [.sit s 0] }
  | _, _ => .fail
def nextE (get : Get) (it : AV) (str : Bool) : TO :=
  match str, it with
  | true, .its i =>
    match get i with
    | some (.sit s pos) => .br (decide (pos < s.size)) (.leaf { val := .tup [.v (.bool true), .v (.int .i64 (pos : Int)), .v (.int .i32 (Utf8.decode s pos).1)], upd := [(i, some (.sit s (pos + (Utf8.decode s pos).2)))] }) (one (.tup [.v (.bool false)]))
    | _ => .fail
  | _, _ => .fail
end Go.Eng

namespace Go.Eng
open Go

abbrev Heap := List (Option Blk)
def getH (H : Heap) : Get := fun i => match H[i]? with
  | some b => b
  | none => none

structure Res where
  val : AV
  upd : List (Option (Option Blk)) := []
  new : List Blk := []

def outOf : List Blk → List (Option (Option Blk)) → Heap
  | [], _ => []
  | b :: bs, [] => some b :: outOf bs []
  | b :: bs, none :: us => some b :: outOf bs us
  | _ :: bs, some x :: us => x :: outOf bs us
def Res.heap (Hin : List Blk) (r : Res) : Heap := outOf Hin r.upd ++ r.new.map some

def VL (σ : Store) (φ : Places) (xs : List AV) (ys : List Value) : Prop :=
  xs.length = ys.length ∧ ∀ (j : Nat) (c : AV) (y : Value), xs[j]? = some c → ys[j]? = some y → V σ φ c y

def Globals (Γ : Nat → AV) (σ : Store) : Prop := ∀ g, V0 σ (Γ g) (.pointer (some ⟨g, 0, none⟩))

def Contract (P : Program) (Γ : Nat → AV) (f : FuncId) (args : List AV) (Hin : List Blk) (r : Res) : Prop :=
  ∀ (σ : Store) (φ : Places) (w : World) (vals : Array Value), Globals Γ σ → VL σ φ args vals.toList → (∀ k, Hin.length ≤ k → φ k = none) →
    R ⟨w, σ, fun b => ∃ k L, φ k = some L ∧ L.virt = false ∧ L.b = b⟩ σ φ (getH (Hin.map some)) w →
    Calls P f vals w fun e w' => ∃ σ' φ' v, e = .returned v ∧ V σ' φ' r.val v ∧
      R ⟨w, σ, fun b => ∃ k L, φ k = some L ∧ L.virt = false ∧ L.b = b⟩ σ' φ' (getH (r.heap Hin)) w' ∧ (∀ k, k < Hin.length → φ' k = φ k) ∧
      (∀ k, (r.heap Hin).length ≤ k → φ' k = none)

structure CT (P : Program) (Γ : Nat → AV) where
  f : FuncId
  spec : List AV → List Blk → Tree Res
  enters : ∀ (args : Array Value) (w : World), (callFunc f args).run P w = .ok (.enter f args) w
  ok : ∀ args Hin r, (spec args Hin).get = some r → Contract P Γ f args Hin r

def blkIds : Blk → List Nat
  | .row cs => AV.idsL cs
  | _ => []
def blkRen (r : Nat → Nat) : Blk → Blk
  | .row cs => .row (AV.renL r cs)
  | b => b
def memN (i : Nat) : List Nat → Bool
  | [] => false
  | j :: l => Nat.beq i j || memN i l
def reach (get : Get) : Nat → List Nat → List Nat → Option (List Nat)
  | _, [], seen => some seen
  | 0, _ :: _, _ => none
  | n + 1, i :: todo, seen =>
    match memN i seen with
    | true => reach get n todo seen
    | false => match get i with
      | some b => reach get n (blkIds b ++ todo) (seen ++ [i])
      | none => none
def posIn (i : Nat) : List Nat → Nat
  | [] => 0
  | j :: l => match Nat.beq i j with
    | true => 0
    | false => posIn i l + 1
def backIn (ids : List Nat) (nb : Nat) (k : Nat) : Nat := match ids[k]? with
  | some i => i
  | none => nb + (k - ids.length)
def blocksAt (get : Get) : List Nat → Option (List Blk)
  | [] => some []
  | i :: l => match get i, blocksAt get l with
    | some b, some bs => some (b :: bs)
    | _, _ => none
def updsOf (r : Nat → Nat) : List Nat → List (Option (Option Blk)) → List (Nat × Option Blk)
  | i :: ids, u :: us => match u with
    | none => updsOf r ids us
    | some x => (i, x.map (blkRen r)) :: updsOf r ids us
  | _, _ => []

def findCT {P : Program} {Γ : Nat → AV} (f : FuncId) : List (CT P Γ) → Option (CT P Γ)
  | [] => none
  | c :: cs => match Nat.beq c.f f with
    | true => some c
    | false => findCT f cs

def callE {P : Program} {Γ : Nat → AV} (T : List (CT P Γ)) (nb : Nat) (get : Get) (f : FuncId) (args : List AV) : TO :=
  match findCT f T with
  | some c =>
    match reach get 1000 (AV.idsL args) [] with
    | some ids =>
      match blocksAt get ids with
      | some Hin =>
        (c.spec (AV.renL (fun i => posIn i ids) args) (Hin.map (blkRen fun i => posIn i ids))).bind fun r =>
          .leaf { val := r.val.ren (backIn ids nb), upd := updsOf (backIn ids nb) ids r.upd, new := r.new.map (blkRen (backIn ids nb)) }
      | none => .fail
    | none => .fail
  | none => .fail

def opd (Γ : Nat → AV) (fr : List AV) : Operand → AV
  | .tmp t => fr.getD t .any
  | .const v => avOf v
  | .global g => Γ g
  | .func f => .fn f [] []

def mapOpt {α β : Type} (f : α → β) : Option α → Option β
  | some a => some (f a)
  | none => none

def valT (x : Option AV) : TO := match x with
  | some a => one a
  | none => .fail

def pickE (c a b : AV) : TO :=
  match c with
  | .v (.bool true) => one a
  | .v (.bool false) => one b
  | .sb c => .br c (one a) (one b)
  | _ => .fail

def nilOk : AV → Bool
  | .ptr _ _ => true
  | .ap _ => true
  | .eptr _ _ _ => true
  | .pp _ => true
  | .pa _ _ _ => true
  | .fn _ _ _ => true
  | _ => false

def opE {P : Program} {Γ : Nat → AV} (T : List (CT P Γ)) (ip : Bool) (nb : Nat) (get : Get) (ρ : Operand → AV) (o : Op) : TO :=
  match o with
  | .move x => one (ρ x)
  | .assign x => one (ρ x)
  | .pick c a b => pickE (ρ c) (ρ a) (ρ b)
  | .alloc t => match zeroOf P t with
    | some z => allocE P nb t z
    | none => .fail
  | .box t x => match cellsOf (ρ x) with
    | some cs => allocE P nb t cs
    | none => .fail
  | .build t parts => valT (buildE P t (parts.toList.map fun q => (q.1, ρ q.2)))
  | .buildSlice t len parts => buildSliceF P nb get t len (parts.toList.map fun q => (q.1, ρ q.2))
  | .load t a => valT (loadE P get t (ρ a))
  | .store t a x => storeF P get t (ρ a) (ρ x)
  | .nilCheck x => if nilOk (ρ x) then one (ρ x) else .fail
  | .binOp op t x y _ => binE P get op t (ρ x) (ρ y)
  | .unOp op _ x => unE op (ρ x)
  | .convert s d x => convE P nb get s d (ρ x)
  | .makeFunc (.func f) first cap => one (.fn f (first.toList.map ρ) (cap.toList.map ρ))
  | .makeSlice t l c => makeSliceE P nb t (ρ l) (ρ c)
  | .slice t x lo hi mx => sliceE P ip nb get t (ρ x) (mapOpt ρ lo) (mapOpt ρ hi) (mapOpt ρ mx)
  | .fieldAddr s x f => match fieldOf P s f with
    | some fd => match szOf P fd.type with
      | some (_ + 1) => valT (moveP fd.offset (ρ x))
      | _ => .fail
    | none => .fail
  | .field s x f => match fieldOf P s f, ρ x with
    | some fd, .agg cs => valT (partE P fd.type cs fd.offset)
    | _, _ => .fail
  | .indexAddr t x ix => indexAddrE P get t (ρ x) (ρ ix)
  | .index t x ix => indexE P t (ρ x) (ρ ix)
  | .extract x ix => match ρ x with
    | .tup vs => valT vs[ix]?
    | _ => .fail
  | .call c =>
    match c.callee with
    | .builtin b =>
      match b, c.args.toList.map ρ with
      | .append, [s, x] => appendE P ip nb get c.argTypes s x
      | .copy, [d, x] => copyE P get c.argTypes d x
      | .len, [x] => lenE P get c.argTypes x
      | .clear, [x] => clearE P get c.argTypes x
      | .min, x :: xs => valT (minE x xs)
      | .max, x :: xs => valT (maxE x xs)
      | _, _ => .fail
    | .value f =>
      match ρ f with
      | .fn fid first cap => callE T nb get fid (first ++ c.args.toList.map ρ ++ cap)
      | _ => .fail
    | .invoke _ _ => .fail
  | .range t x => rangeE P nb t (ρ x)
  | .next it str => nextE get (ρ it) str
  | .makeMap t r => makeMapE P nb t (mapOpt ρ r)
  | .lookup t x ix ok => lookupE P get t (ρ x) (ρ ix) ok
  | .mapUpdate t m k x => mapUpdE P get t (ρ m) (ρ k) (ρ x)
  | _ => .fail

structure St where
  fr : List AV
  H : Heap
  eff : Bool

def putF (fr : List AV) (d : Option Tmp) (x : AV) : List AV :=
  match d with
  | some t => fr.set t x
  | none => fr
def setH (H : Heap) (upd : List (Nat × Option Blk)) : Heap :=
  match upd with
  | [] => H
  | (i, b) :: us => setH (H.set i b) us
def effOf (o : OpOut) : Bool :=
  match o.upd, o.new with
  | [], [] => false
  | _, _ => true
def doneE (s : St) (o : Oper) (out : OpOut) : St :=
  ⟨putF s.fr o.dst out.val, setH s.H out.upd ++ out.new.map some, s.eff || effOf out⟩

def stepE {P : Program} {Γ : Nat → AV} (T : List (CT P Γ)) (ip : Bool) (ops : Array Oper) (o : Oper) (s : St) : Tree St :=
  match o.guard with
  | none => (opE T ip s.H.length (getH s.H) (opd Γ s.fr) o.op).bind fun out => .leaf (doneE s o out)
  | some (j, want) =>
    match ops[j]? with
    | some oj =>
      match oj.dst with
      | some t =>
        match s.fr.getD t .any with
        | .v (.bool b) =>
          match b == want with
          | true => (opE T ip s.H.length (getH s.H) (opd Γ s.fr) o.op).bind fun out => .leaf (doneE s o out)
          | false => .leaf ⟨putF s.fr o.dst (.v undef), s.H, s.eff⟩
        | .v (.tuple _) => .leaf ⟨putF s.fr o.dst (.v undef), s.H, s.eff⟩
        | .sb b =>
          match want with
          | true =>
            .br b ((opE T ip s.H.length (getH s.H) (opd Γ (s.fr.set t (.v (.bool true)))) o.op).bind fun out => .leaf (doneE ⟨s.fr.set t (.v (.bool true)), s.H, s.eff⟩ o out))
              (.leaf ⟨putF (s.fr.set t (.v (.bool false))) o.dst (.v undef), s.H, s.eff⟩)
          | false =>
            .br b (.leaf ⟨putF (s.fr.set t (.v (.bool true))) o.dst (.v undef), s.H, s.eff⟩)
              ((opE T ip s.H.length (getH s.H) (opd Γ (s.fr.set t (.v (.bool false)))) o.op).bind fun out => .leaf (doneE ⟨s.fr.set t (.v (.bool false)), s.H, s.eff⟩ o out))
        | _ => .fail
      | none => .fail
    | none => .fail

def stepsE {P : Program} {Γ : Nat → AV} (T : List (CT P Γ)) (ip : Bool) (ops : Array Oper) : List Oper → St → Tree St
  | [], s => .leaf s
  | o :: l, s => (stepE T ip ops o s).bind fun s' => stepsE T ip ops l s'

def touched (ops : List Oper) : List Nat := ops.filterMap (·.dst)
def mixF (ts : List Nat) (c : Bool) : Nat → List AV → List AV → List AV → List AV
  | k, z :: zs, x :: xs, y :: ys => (match memN k ts with
    | true => mixAV c x y
    | false => z) :: mixF ts c (k + 1) zs xs ys
  | _, _, _, _ => []
def andG : Option Bool → Option Bool → Option Bool
  | none, g => g
  | g, none => g
  | some a, some b => some (a && b)
def iteG (c : Bool) : Option Bool → Option Bool → Option Bool
  | none, none => none
  | some a, none => some (bif c then a else true)
  | none, some b => some (bif c then true else b)
  | some a, some b => some (bif c then a else b)
def flatT (ts : List Nat) (fr0 : List AV) : Tree St → Option (Option Bool × List AV)
  | .leaf s => match s.eff with
    | true => none
    | false => some (none, s.fr)
  | .chk c t => match flatT ts fr0 t with
    | some (g, fr) => some (andG (some c) g, fr)
    | none => none
  | .br c t e => match flatT ts fr0 t, flatT ts fr0 e with
    | some (g, a), some (g', b) => some (iteG c g g', mixF ts c 0 fr0 a b)
    | _, _ => none
  | .fail => none
def mergeT (ts : List Nat) (fr0 : List AV) (H0 : Heap) (t : Tree St) : Tree St :=
  match t with
  | .leaf s => .leaf s
  | t => match flatT ts fr0 t with
    | some (none, fr) => .leaf ⟨fr, H0, false⟩
    | some (some g, fr) => .chk g (.leaf ⟨fr, H0, false⟩)
    | none => t

def befores : List Oper → List Nat → List Nat
  | [], acc => acc
  | o :: l, acc => befores l (acc ++ [o.after.toList.foldl (fun s e => match Region.binds .any e with
      | true => s ||| 2 ^ e.on ||| acc.getD e.on 0
      | false => s) 0])
def slotsOf (ops : List Oper) (o : Oper) : List Nat :=
  (o.op.operands.toList.filterMap fun | .tmp t => some t | _ => none) ++ (match o.guard with
    | some (g, _) => match ops[g]? with
      | some og => og.dst.toList
      | none => []
    | none => [])
def meets (a b : List Nat) : Bool := a.any fun x => memN x b
def drawOk (ops : List Oper) : Bool :=
  (List.range ops.length).all fun j => match ops[j]? with
    | none => true
    | some oj => (List.range j).all fun i => match ops[i]? with
      | none => true
      | some oi => (!(meets oi.dst.toList (slotsOf ops oj ++ oj.dst.toList)) && !(meets oj.dst.toList (slotsOf ops oi))) || ((befores ops []).getD j 0).testBit i
def backOk : Nat → List Oper → Bool
  | _, [] => true
  | k, o :: l => (o.after.toList.all fun e => !(Region.binds .any e) || Nat.blt e.on k) && backOk (k + 1) l
def maskF (ss : List Nat) : Nat → List AV → List AV
  | _, [] => []
  | k, x :: xs => (match memN k ss with
    | true => x
    | false => .any) :: maskF ss (k + 1) xs
def unmaskF (ss : List Nat) : Nat → List AV → List AV → List AV
  | k, x :: xs, y :: ys => (match memN k ss with
    | true => y
    | false => x) :: unmaskF ss (k + 1) xs ys
  | _, _, _ => []
def stepD {P : Program} {Γ : Nat → AV} (T : List (CT P Γ)) (ip : Bool) (ops : Array Oper) (o : Oper) (s : St) : Tree St :=
  (stepE T ip ops o ⟨maskF (slotsOf ops.toList o) 0 s.fr, s.H, s.eff⟩).bind fun s' => .leaf ⟨unmaskF (slotsOf ops.toList o ++ o.dst.toList) 0 s.fr s'.fr, s'.H, s'.eff⟩
def stepsX {P : Program} {Γ : Nat → AV} (T : List (CT P Γ)) (ip : Bool) (ops : Array Oper) : List Oper → List AV → Heap → Tree (List St)
  | [], _, _ => .leaf []
  | o :: l, fr, H => (stepD T ip ops o ⟨fr, H, false⟩).bind fun s => (stepsX T ip ops l s.fr s.H).bind fun r => .leaf (s :: r)
mutual
def sameAV : AV → AV → Bool
  | .any, .any => true
  | .v (.int k a), .v (.int k' b) => decide (k = k') && decide (a = b)
  | .v (.bool a), .v (.bool b) => a == b
  | .v (.string a), .v (.string b) => decide (a = b)
  | .v (.pointer none), .v (.pointer none) => true
  | .v (.slice none a b), .v (.slice none a' b') => Nat.beq a a' && Nat.beq b b'
  | .sb a, .sb b => a == b
  | .agg a, .agg b => sameL a b
  | .tup a, .tup b => sameL a b
  | .ptr i o, .ptr i' o' => Nat.beq i i' && Nat.beq o o'
  | .ap i, .ap i' => Nat.beq i i'
  | .eptr i e o, .eptr i' e' o' => Nat.beq i i' && Nat.beq e e' && Nat.beq o o'
  | .hs i e n, .hs i' e' n' => Nat.beq i i' && Nat.beq e e' && Nat.beq n n'
  | .map i, .map i' => Nat.beq i i'
  | .its i, .its i' => Nat.beq i i'
  | _, _ => false
def sameL : List AV → List AV → Bool
  | [], [] => true
  | x :: xs, y :: ys => sameAV x y && sameL xs ys
  | _, _ => false
end
def condT {α : Type} : Tree α → Bool
  | .leaf _ => true
  | .chk c t => c && condT t
  | .br c t e => bif c then condT t else condT e
  | .fail => false
def stableE {P : Program} {Γ : Nat → AV} (T : List (CT P Γ)) (ip : Bool) (ops : Array Oper) (o : Oper) (fr : List AV) (H : Heap) (s : St) : Bool :=
  condT ((stepD T ip ops o ⟨fr, H, false⟩).bind fun s' => match s'.eff with
    | true => .fail
    | false => match o.dst with
      | some t => .chk (sameAV (s'.fr.getD t .any) (s.fr.getD t .any)) (.leaf ())
      | none => .leaf ())
def writes : Nat → Nat → List St → List (Nat × Nat)
  | _, _, [] => []
  | k, c, s :: l => match s.eff with
    | true => (k, c) :: writes (k + 1) (c + 1) l
    | false => writes (k + 1) c l
def heapsX (H : Heap) : List St → List Heap
  | [] => [H]
  | s :: l => match s.eff with
    | true => H :: heapsX s.H l
    | false => heapsX H l
def mayStand (bef : List Nat) (W : List (Nat × Nat)) (k p : Nat) : Bool :=
  W.all fun e => (!((bef.getD k 0).testBit e.1) || Nat.blt e.2 p) && (!((bef.getD e.1 0).testBit k) || Nat.ble p e.2)
def ordX (bef : List Nat) : List (Nat × Nat) → Bool
  | [] => true
  | e :: es => (es.all fun j => (bef.getD j.1 0).testBit e.1) && ordX bef es
def checksX {P : Program} {Γ : Nat → AV} (T : List (CT P Γ)) (ip : Bool) (ops : Array Oper) (bef : List Nat) (W : List (Nat × Nat)) (Hs : List Heap) : Nat → Nat → List Oper → List AV → List St → Bool
  | k, c, o :: l, fr, s :: R => match s.eff with
    | true => checksX T ip ops bef W Hs (k + 1) (c + 1) l s.fr R
    | false => ((List.range Hs.length).all fun p => match Nat.beq p c || !(mayStand bef W k p) with
      | true => true
      | false => stableE T ip ops o fr (Hs.getD p []) s) && checksX T ip ops bef W Hs (k + 1) c l s.fr R
  | _, _, _, _, _ => true
def lastX : List AV → Heap → List St → List AV × Heap
  | fr, H, [] => (fr, H)
  | _, _, s :: l => lastX s.fr s.H l
def endX {P : Program} {Γ : Nat → AV} (T : List (CT P Γ)) (ip : Bool) (ops : Array Oper) (fr : List AV) (H : Heap) (R : List St) : Tree St :=
  match writes 0 0 R with
  | [] => .leaf ⟨(lastX fr H R).1, (lastX fr H R).2, false⟩
  | W => .chk (ordX (befores ops.toList []) W && checksX T ip ops (befores ops.toList []) W (heapsX H R) 0 0 ops.toList fr R) (.leaf ⟨(lastX fr H R).1, (lastX fr H R).2, true⟩)
def wroteE (nb : Nat) (out : OpOut) : List Nat := out.upd.map (·.1) ++ List.range' nb out.new.length
def stepW {P : Program} {Γ : Nat → AV} (T : List (CT P Γ)) (ip : Bool) (ops : Array Oper) (o : Oper) (s : St) : Tree (St × List Nat) :=
  match o.guard with
  | none => (opE T ip s.H.length (getH s.H) (opd Γ s.fr) o.op).bind fun out => .leaf (doneE s o out, wroteE s.H.length out)
  | some (j, want) =>
    match ops[j]? with
    | some oj =>
      match oj.dst with
      | some t =>
        match s.fr.getD t .any with
        | .v (.bool b) =>
          match b == want with
          | true => (opE T ip s.H.length (getH s.H) (opd Γ s.fr) o.op).bind fun out => .leaf (doneE s o out, wroteE s.H.length out)
          | false => .leaf (⟨putF s.fr o.dst (.v undef), s.H, s.eff⟩, [])
        | .v (.tuple _) => .leaf (⟨putF s.fr o.dst (.v undef), s.H, s.eff⟩, [])
        | .sb b =>
          match want with
          | true =>
            .br b ((opE T ip s.H.length (getH s.H) (opd Γ (s.fr.set t (.v (.bool true)))) o.op).bind fun out => .leaf (doneE ⟨s.fr.set t (.v (.bool true)), s.H, s.eff⟩ o out, wroteE s.H.length out))
              (.leaf (⟨putF (s.fr.set t (.v (.bool false))) o.dst (.v undef), s.H, s.eff⟩, []))
          | false =>
            .br b (.leaf (⟨putF (s.fr.set t (.v (.bool true))) o.dst (.v undef), s.H, s.eff⟩, []))
              ((opE T ip s.H.length (getH s.H) (opd Γ (s.fr.set t (.v (.bool false)))) o.op).bind fun out => .leaf (doneE ⟨s.fr.set t (.v (.bool false)), s.H, s.eff⟩ o out, wroteE s.H.length out))
        | _ => .fail
      | none => .fail
    | none => .fail
def deepOp : Op → Bool
  | .call c => match c.callee with
    | .value _ => true
    | _ => false
  | _ => false
def flatOp : Op → Bool
  | .move _ => true
  | .assign _ => true
  | _ => false
def footE (H : Heap) (o : Op) (fr : List AV) : Option (List Nat) := match flatOp o with
  | true => some []
  | false => match deepOp o with
    | true => reach (getH H) 1000 (AV.idsL fr) []
    | false => some (AV.idsL fr)
structure StW where
  s : St
  w : List Nat
  f : Option (List Nat)
def stepV {P : Program} {Γ : Nat → AV} (T : List (CT P Γ)) (ip : Bool) (ops : Array Oper) (o : Oper) (s : St) : Tree StW :=
  (stepW T ip ops o ⟨maskF (slotsOf ops.toList o) 0 s.fr, s.H, s.eff⟩).bind fun r =>
    .leaf ⟨⟨unmaskF (slotsOf ops.toList o ++ o.dst.toList) 0 s.fr r.1.fr, r.1.H, r.1.eff⟩, r.2, footE s.H o.op (maskF (slotsOf ops.toList o) 0 s.fr)⟩
def stepsY {P : Program} {Γ : Nat → AV} (T : List (CT P Γ)) (ip : Bool) (ops : Array Oper) : List Oper → List AV → Heap → Tree (List StW)
  | [], _, _ => .leaf []
  | o :: l, fr, H => (stepV T ip ops o ⟨fr, H, false⟩).bind fun r => (stepsY T ip ops l r.s.fr r.s.H).bind fun rs => .leaf (r :: rs)
def apartW (w : List Nat) (f : Option (List Nat)) : Bool := match w with
  | [] => true
  | w => match f with
    | some f => !meets w f
    | none => false
def footOk (bef : List Nat) (L : List StW) : Bool :=
  (List.range L.length).all fun j => match L[j]? with
    | none => true
    | some rj => (List.range j).all fun i => match L[i]? with
      | none => true
      | some ri => (bef.getD j 0).testBit i || (apartW rj.w ri.f && apartW ri.w rj.f && !meets ri.w rj.w)
def endY {P : Program} {Γ : Nat → AV} (T : List (CT P Γ)) (ip : Bool) (ops : Array Oper) (fr : List AV) (H : Heap) (L : List StW) : Tree St :=
  match writes 0 0 (L.map (·.s)) with
  | [] => .leaf ⟨(lastX fr H (L.map (·.s))).1, (lastX fr H (L.map (·.s))).2, false⟩
  | _ => match footOk (befores ops.toList []) L with
    | true => .leaf ⟨(lastX fr H (L.map (·.s))).1, (lastX fr H (L.map (·.s))).2, true⟩
    | false => endX T ip ops fr H (L.map (·.s))
def drawE {P : Program} {Γ : Nat → AV} (T : List (CT P Γ)) (ip : Bool) (ops : Array Oper) (fr : List AV) (H : Heap) : Tree St :=
  match drawOk ops.toList && backOk 0 ops.toList && P.follows .mixedOrders with
  | true => mergeT (touched ops.toList) fr H ((stepsY T ip ops ops.toList fr H).bind fun R => endY T ip ops fr H R)
  | false => .fail
def regionE {P : Program} {Γ : Nat → AV} (T : List (CT P Γ)) (ip : Bool) (ops : Array Oper) (fr : List AV) (H : Heap) : Tree St :=
  mergeT (touched ops.toList) fr H (stepsE T ip ops ops.toList ⟨fr, H, false⟩)

inductive AEx where
  | normal
  | exit (id : Nat)
  | ret

structure Out where
  ex : AEx
  fr : List AV
  H : Heap

structure LSpec where
  live : List Nat
  nils : List (Nat × TypeId) := []
  spec : List AV → Heap → Tree Out

def nloops : Code → Nat
  | .seq a b => nloops a + nloops b
  | .cond _ a b => nloops a + nloops b
  | .block _ b => nloops b
  | .loop b => nloops b + 1
  | _ => 0
def loopBodies : Code → List Code
  | .seq a b => loopBodies a ++ loopBodies b
  | .cond _ a b => loopBodies a ++ loopBodies b
  | .block _ b => loopBodies b
  | .loop b => b :: loopBodies b
  | _ => []

def boxNils (P : Program) : List (Nat × TypeId) → List AV → Heap → Option (List AV × Heap)
  | [], vals, H => some (vals, H)
  | (k, t) :: r, vals, H =>
    match Nat.ble 100 k with
    | false => match vals[k]? with
      | some (.v (.slice none 0 0)) =>
        match szOf P t, zeroOf P t with
        | some sz, some z => if z.length = sz then boxNils P r (vals.set k (.hs H.length 0 0)) (H ++ [some (.arr sz 0 fun _ => z)]) else none
        | _, _ => none
      | some _ => boxNils P r vals H
      | none => none
    | true => match vals[k % 100]? with
      | some (.ptr i 0) => match getH H i with
        | some (.row cs) => match cs[k / 100 - 1]? with
          | some (.v (.slice none 0 0)) =>
            match szOf P t, zeroOf P t with
            | some sz, some z => if z.length = sz then boxNils P r vals ((H ++ [some (Blk.arr sz 0 fun _ => z)]).set i (some (.row (cs.set (k / 100 - 1) (.hs H.length 0 0))))) else none
            | _, _ => none
          | some _ => boxNils P r vals H
          | none => none
        | _ => none
      | some _ => boxNils P r vals H
      | none => none
def canonIds (m : Nat) (vals : List AV) (H : Heap) : Option (List Nat) :=
  match reach (getH H) 1000 (AV.idsL vals) [] with
  | some ids =>
    match reach (getH H) 1000 (ids ++ ((List.range m).filter fun i => ((getH H) i).isSome)) [] with
    | some all => some (List.range m ++ all.filter fun i => Nat.ble m i)
    | none => none
  | none => none
def canonH (r : Nat → Nat) (H : Heap) (ids : List Nat) : Heap := ids.map fun i => ((getH H) i).map (blkRen r)
def canon (m : Nat) (vals : List AV) (H : Heap) : Option (List AV × Heap) :=
  match canonIds m vals H with
  | some ids => some (AV.renL (fun i => posIn i ids) vals, canonH (fun i => posIn i ids) H ids)
  | none => none
def expand (n : Nat) (live : List Nat) (vals : List AV) : List AV :=
  (List.range n).map fun t => match memN t live with
    | true => vals.getD (posIn t live) .any
    | false => .any

def cleanV (get : Get) (x : AV) : AV :=
  match x.ids with
  | [] => x
  | ids => match reach get 1000 ids [] with
    | some _ => x
    | none => .any
def headE (P : Program) (m : Nat) (live : List Nat) (nils : List (Nat × TypeId)) (fr : List AV) (H : Heap) : Option (List AV × Heap) :=
  match boxNils P nils (live.map fun t => cleanV (getH H) (fr.getD t .any)) H with
  | some (vals, H) => canon m vals H
  | none => none

def codeE {P : Program} {Γ : Nat → AV} (T : List (CT P Γ)) (L : Nat → LSpec) (ip : Bool) (m : Nat) : Nat → Code → List AV → Heap → Tree Out
  | _, .skip, fr, H => .leaf ⟨.normal, fr, H⟩
  | _, .region _ ops draw, fr, H => (match draw with
    | true => drawE T ip ops fr H
    | false => regionE T ip ops fr H).bind fun s => .leaf ⟨.normal, s.fr, s.H⟩
  | k, .seq a b, fr, H => (codeE T L ip m k a fr H).bind fun o => match o.ex with
    | .normal => codeE T L ip m (k + nloops a) b o.fr o.H
    | _ => .leaf o
  | k, .cond c a b, fr, H => match opd Γ fr c with
    | .v (.bool true) => codeE T L ip m k a fr H
    | .v (.bool false) => codeE T L ip m (k + nloops a) b fr H
    | .sb c => .br c (codeE T L ip m k a fr H) (codeE T L ip m (k + nloops a) b fr H)
    | _ => .fail
  | k, .block id c, fr, H => (codeE T L ip m k c fr H).bind fun o => match o.ex with
    | .exit j => match Nat.beq j id with
      | true => .leaf ⟨.normal, o.fr, o.H⟩
      | false => .leaf o
    | _ => .leaf o
  | k, .loop _, fr, H => match headE P m (L k).live (L k).nils fr H with
    | some (vals, H) => ((L k).spec vals H).bind fun o => .leaf ⟨o.ex, expand fr.length (L k).live o.fr, o.H⟩
    | none => .fail
  | _, .exit id, fr, H => .leaf ⟨.exit id, fr, H⟩
  | _, .ret, fr, H => .leaf ⟨.ret, fr, H⟩
  | _, _, _, _ => .fail

def resV (P : Program) (get : Get) (fr : List AV) : List ResultVar → Option (List AV)
  | [] => some []
  | .tmp t :: r => match resV P get fr r with
    | some vs => some (fr.getD t .any :: vs)
    | none => none
  | .cell a t :: r => match loadE P get t (fr.getD a .any), resV P get fr r with
    | some v, some vs => some (v :: vs)
    | _, _ => none
def oneOf : List AV → AV
  | [x] => x
  | vs => .tup vs
structure Ans where
  val : AV
  H : Heap
def ansE (P : Program) (m : Nat) (results : List ResultVar) (o : Out) : Tree Ans :=
  match o.ex with
  | .exit _ => .fail
  | _ =>
    match resV P (getH o.H) o.fr results with
    | some vs => match canon m [oneOf vs] o.H with
      | some ([v], H) => .leaf ⟨v, H⟩
      | _ => .fail
    | none => .fail
def frame0 (n : Nat) (args : List AV) : List AV := args ++ List.replicate (n - args.length) .any

def bodyE {P : Program} {Γ : Nat → AV} (T : List (CT P Γ)) (L : Nat → LSpec) (ip : Bool) (ntmps : Nat) (results : List ResultVar) (c : Code) (args : List AV) (Hin : List Blk) : Tree Ans :=
  (codeE T L ip Hin.length 0 c (frame0 ntmps args) (Hin.map some)).bind (ansE P Hin.length results)

end Go.Eng

namespace Go.Eng
open Go

section types
variable {P : Program} {t : TypeId} {w : World}
theorem run_underlying {d : TypeDesc} (h : P.underlying t = some d) : (underlying t).run P w = .ok d w := by
  simp [underlying, h]
theorem run_typeInfo {i : TypeInfo} (h : P.info? t = some i) : (typeInfo t).run P w = .ok i w := by
  simp [typeInfo, h]
theorem szOf_some {m : Nat} (h : szOf P t = some m) : ∃ i, P.info? t = some i ∧ i.size = m := by
  unfold szOf at h
  cases hi : P.info? t with
  | none => simp [hi] at h
  | some i => exact ⟨i, rfl, by simpa [hi] using h⟩
theorem run_sizeOf {m : Nat} (h : szOf P t = some m) : (sizeOf t).run P w = .ok m w := by
  obtain ⟨i, hi, rfl⟩ := szOf_some h
  simp [sizeOf, run_typeInfo hi]
theorem bytesOfT_some {m : Nat} (h : bytesOfT P t = some m) : ∃ i, P.info? t = some i ∧ i.bytes = m := by
  unfold bytesOfT at h
  cases hi : P.info? t with
  | none => simp [hi] at h
  | some i => exact ⟨i, rfl, by simpa [hi] using h⟩
theorem run_isAgg {b : Bool} (h : aggT P t = some b) : (isAgg t).run P w = .ok b w := by
  unfold aggT at h
  unfold isAgg
  cases hu : P.underlying t with
  | none => simp [hu] at h
  | some d =>
    simp only [Sem.run_bind, run_underlying hu, Result.andThen_ok]
    cases d <;> simp_all
theorem run_zeroValue {z : List AV} (h : zeroOf P t = some z) : ∃ v, (zeroValue t).run P w = .ok v w ∧ z = v.cells.toList.map .v := by
  unfold zeroOf at h
  cases hi : P.info? t with
  | none => simp [hi] at h
  | some i =>
    cases hz : i.zero with
    | none => simp [hi, hz] at h
    | some v => exact ⟨v, by simp [zeroValue, run_typeInfo hi, hz], by simpa [hi, hz] using h.symm⟩
theorem elemOfT_some {e : TypeId} (h : elemOfT P t = some e) : P.underlying t = some (.slice e) := by
  unfold elemOfT at h
  split at h <;> simp_all
theorem arrOfT_some {n : Nat} {e : TypeId} (h : arrOfT P t = some (n, e)) : P.underlying t = some (.array n e) := by
  unfold arrOfT at h
  split at h <;> simp_all
end types

theorem Addr.add_none {a : Addr} (h : a.spot = none) (n : Nat) : a.add n = ⟨a.block, a.off + n, none⟩ := by
  unfold Addr.add
  split
  · rename_i hn; subst hn; cases a; simp_all
  · rfl
theorem cell?_row {w : World} {b : Nat} {c : Array Value} {T : TypeId} {fr : Nat × Nat} (h : w.heap[b]? = some (.cells c T fr)) (o : Nat) : w.cell? ⟨b, o, none⟩ = c[o]? := by
  simp [World.cell?, h]
theorem World.row.cell {w : World} {b : Nat} {c : Array Value} (h : World.row w b c) (o : Nat) : w.cell? ⟨b, o, none⟩ = c[o]? := by
  obtain ⟨T, fr, h, _⟩ := h
  exact cell?_row h o
theorem World.row.frozen {w : World} {b : Nat} {c : Array Value} (h : World.row w b c) {o : Nat} (ho : o < c.size) : w.frozen? ⟨b, o, none⟩ = false := by
  obtain ⟨T, fr, h, hf⟩ := h
  obtain ⟨lo, hi⟩ := fr
  simpa [World.frozen?, h] using hf o ho

theorem run_loadCellsFrom {P : Program} {w : World} {a : Addr} (ys : List Value) : ∀ (i : Nat) (acc : Array Value),
    (∀ j y, ys[j]? = some y → w.cell? (a.add (i + j)) = some y) → (loadCellsFrom a i ys.length acc).run P w = .ok (acc ++ ys.toArray) w := by
  induction ys with
  | nil => intro i acc _; simp [loadCellsFrom]
  | cons y ys ih =>
    intro i acc h
    have h0 := h 0 y (by simp)
    simp only [Nat.add_zero] at h0
    simp only [List.length_cons, loadCellsFrom, Sem.run_bind, run_load, h0, Result.andThen_ok]
    rw [ih (i + 1) (acc.push y) (fun j z hz => by have := h (j + 1) z (by simpa using hz); rwa [show i + 1 + j = i + (j + 1) by omega])]
    simp
theorem run_loadCells {P : Program} {w : World} {a : Addr} (ys : List Value) (h : ∀ j y, ys[j]? = some y → w.cell? (a.add j) = some y) :
    (loadCells a ys.length).run P w = .ok ys.toArray w := by
  unfold loadCells
  rw [run_loadCellsFrom ys 0 #[] (fun j y hy => by simpa using h j y hy)]
  simp
theorem run_loadCells_of {P : Program} {w : World} {a : Addr} {m : Nat} (g : Nat → Value) (h : ∀ j, j < m → w.cell? (a.add j) = some (g j)) :
    (loadCells a m).run P w = .ok ((List.range m).map g).toArray w := by
  have := run_loadCells (P := P) (w := w) (a := a) ((List.range m).map g) (fun j y hy => by
    simp only [List.getElem?_map] at hy
    by_cases hj : j < m
    · simp [List.getElem?_range hj] at hy; subst hy; exact h j hj
    · simp [Nat.le_of_not_lt hj] at hy)
  simpa using this

def putRow (w : World) (b : Nat) (c : Array Value) : World :=
  { w with heap := w.heap.modify b fun
      | .cells _ T fr => .cells c T fr
      | o => o }
def splice (c : Array Value) (o : Nat) : List Value → Array Value
  | [] => c
  | v :: vs => splice (c.setIfInBounds o v) (o + 1) vs
theorem splice_size (vs : List Value) : ∀ (c : Array Value) (o : Nat), (splice c o vs).size = c.size := by
  induction vs with
  | nil => intro c o; rfl
  | cons v vs ih => intro c o; simp [splice, ih]
theorem splice_get (vs : List Value) : ∀ (c : Array Value) (o k : Nat), o + vs.length ≤ c.size →
    (splice c o vs)[k]? = if o ≤ k ∧ k < o + vs.length then vs[k - o]? else c[k]? := by
  induction vs with
  | nil => intro c o k _; simp [splice]; intro h1 h2; omega
  | cons v vs ih =>
    intro c o k h
    simp only [List.length_cons] at h
    rw [splice, ih _ _ _ (by simp; omega)]
    by_cases h1 : o + 1 ≤ k ∧ k < o + 1 + vs.length
    · rw [if_pos h1, if_pos (by simp; omega)]
      rw [show k - o = (k - (o + 1)) + 1 by omega]; simp
    · rw [if_neg h1]
      by_cases h2 : k = o
      · subst h2
        rw [if_pos ⟨Nat.le_refl _, by simp⟩, Array.getElem?_setIfInBounds, if_pos rfl, if_pos (by omega)]
        simp
      · rw [if_neg (by simp; omega), Array.getElem?_setIfInBounds, if_neg (by omega)]

theorem putRow_heap {w : World} {b : Nat} {c c' : Array Value} {T : TypeId} {fr : Nat × Nat} (h : w.heap[b]? = some (.cells c T fr)) : (putRow w b c').heap[b]? = some (.cells c' T fr) := by
  simp [putRow, Array.getElem?_modify, h]
theorem putRow_other {w : World} {b b' : Nat} {c' : Array Value} (h : b' ≠ b) : (putRow w b c').heap[b']? = w.heap[b']? := by
  simp [putRow, Array.getElem?_modify, Ne.symm h]
theorem putRow_size {w : World} {b : Nat} {c' : Array Value} : (putRow w b c').heap.size = w.heap.size := by simp [putRow]
theorem putRow_same {w : World} {b : Nat} {c : Array Value} {T : TypeId} {fr : Nat × Nat} (h : w.heap[b]? = some (.cells c T fr)) : putRow w b c = w := by
  have : (w.heap.modify b fun | .cells _ T fr => .cells c T fr | o => o) = w.heap := by
    apply Array.ext_getElem?
    intro i
    rw [Array.getElem?_modify]
    split
    · rename_i hi; subst hi; rw [h]; rfl
    · rfl
  simp [putRow, this]
theorem putRow_putRow {w : World} {b : Nat} {c c' : Array Value} : putRow (putRow w b c) b c' = putRow w b c' := by
  have : ((w.heap.modify b fun | .cells _ T fr => .cells c T fr | o => o).modify b fun | .cells _ T fr => .cells c' T fr | o => o) =
      (w.heap.modify b fun | .cells _ T fr => .cells c' T fr | o => o) := by
    apply Array.ext_getElem?
    intro i
    rw [Array.getElem?_modify, Array.getElem?_modify, Array.getElem?_modify]
    split
    · cases w.heap[i]? with
      | none => rfl
      | some o => cases o <;> rfl
    · rfl
  simp [putRow, this]
theorem setCell_putRow {w : World} {b o : Nat} {c : Array Value} {T : TypeId} {fr : Nat × Nat} {v : Value} (h : w.heap[b]? = some (.cells c T fr)) :
    w.setCell ⟨b, o, none⟩ v = putRow w b (c.setIfInBounds o v) := by
  have : (w.setCell ⟨b, o, none⟩ v).heap = (putRow w b (c.setIfInBounds o v)).heap := by
    apply Array.ext_getElem?
    intro i
    simp only [World.setCell, putRow, Array.getElem?_modify]
    split
    · rename_i hi; subst hi; rw [h]; rfl
    · rfl
  have e : w.setCell ⟨b, o, none⟩ v = { w with heap := (w.setCell ⟨b, o, none⟩ v).heap } := rfl
  rw [e, this]; rfl

theorem run_storeCells {P : Program} {a : Addr} (ha : a.spot = none) (vs : List Value) (hv : ∀ v ∈ vs, v.oneCell' = true) : ∀ (i : Nat) (w : World) (c : Array Value),
    World.row w a.block c → a.off + i + vs.length ≤ c.size → (storeCells a vs i).run P w = .ok () (putRow w a.block (splice c (a.off + i) vs)) := by
  induction vs with
  | nil =>
    intro i w c h _
    obtain ⟨T, fr, h, _⟩ := h
    simp [storeCells, splice, putRow_same h]
  | cons v vs ih =>
    intro i w c hrow hlen
    simp only [List.length_cons] at hlen
    obtain ⟨T, fr, h, hf⟩ := hrow
    have hc : w.cell? (a.add i) = some (c[a.off + i]'(by omega)) := by
      rw [Addr.add_none ha, cell?_row h]; simp
    have hfr : w.frozen? (a.add i) = false := by
      rw [Addr.add_none ha]; exact World.row.frozen ⟨T, fr, h, hf⟩ (by omega)
    simp only [storeCells, Sem.run_bind, run_store P w _ v .plain (hv v (by simp)), hc, hfr]
    simp only [Bool.false_eq_true, if_false, Result.andThen_ok]
    rw [Addr.add_none ha, setCell_putRow h]
    rw [ih (fun x hx => hv x (by simp [hx])) (i + 1) _ (c.setIfInBounds (a.off + i) v) ⟨T, fr, putRow_heap h, by simpa using hf⟩ (by simp; omega)]
    rw [putRow_putRow, splice, Nat.add_assoc]

def updG (get : Get) (i : Nat) (b : Option Blk) : Get := fun k => if k = i then b else get k

theorem mvAt.mono {σ σ' : Store} {va : Bool} {cs : List AV} {v : Value} (hs : σ.le σ') (h : mvAt σ va cs v) : mvAt σ' va cs v := by
  cases va with
  | true => obtain ⟨ys, h1, h2, h3⟩ := h; exact ⟨ys, h1, h2, fun j c y hc hy => (h3 j c y hc hy).mono hs⟩
  | false => obtain ⟨c, h1, h2⟩ := h; exact ⟨c, h1, h2.mono hs⟩
theorem blkAt_mono {σ σ' : Store} {φ φ' : Places} {w w' : World} {L : Lc} {b : Blk} (hs : σ.le σ') (hp : φ.le φ') (hw : w'.heap[L.b]? = w.heap[L.b]?)
    (h : blkAt σ φ w L b) : blkAt σ' φ' w' L b := by
  cases b with
  | row cs =>
    obtain ⟨c, ⟨T, fr, h1, h2⟩, h3, h4, h5⟩ := h
    exact ⟨c, ⟨T, fr, by rw [hw]; exact h1, h2⟩, h3, h4, fun j x hx => let ⟨y, hy, hv⟩ := h5 j x hx; ⟨y, hy, hv.mono hs hp⟩⟩
  | arr sz n f =>
    obtain ⟨e1, e2, c, ⟨T, fr, h1, h2⟩, h3, h4, h5⟩ := h
    exact ⟨e1, e2, c, ⟨T, fr, by rw [hw]; exact h1, h2⟩, h3, h4, fun e he => ⟨(h5 e he).1, fun j x hx => let ⟨y, hy, ho, hv⟩ := (h5 e he).2 j x hx; ⟨y, hy, ho, hv.mono hs⟩⟩⟩
  | mp cels ka va n has val =>
    obtain ⟨es, clock, h1, h2, h3, h4, h5⟩ := h
    exact ⟨es, clock, by rw [hw]; exact h1, h2, h3, fun e he => let ⟨k, k1, k2, k3, k4⟩ := h4 e he; ⟨k, k1, k2, k3, k4.mono hs⟩, h5⟩
  | sit s pos => unfold blkAt at *; rw [hw]; exact h

section
variable {κ : Ctx} {σ : Store} {φ : Places} {get : Get} {w : World}

theorem R.write (h : R κ σ φ get w) {i : Nat} {L : Lc} {b : Option Blk} {w' : World} (hi : φ i = some L) (hr : L.virt = false) (hg : (get i).isSome)
    (hw : ∀ b', b' ≠ L.b → w'.heap[b']? = w.heap[b']?) (hsz : w'.heap.size = w.heap.size) (ht : w'.tape = w.tape) (ho : w'.os = w.os) (hu : w'.output = w.output)
    (hb : ∀ blk, b = some blk → blkAt σ φ w' L blk) (hwf : ∀ blk, b = some blk → blkWf blk)
    (hlen : ∀ sz n f, b = some (.arr sz n f) → n = L.n) : R κ σ φ (updG get i b) w' where
  cell := fun b' o y hy => by
    have hne : b' ≠ L.b := fun e => by subst e; rw [h.apart i L hi hr hg o] at hy; simp at hy
    have := h.cell b' o y hy
    simpa [World.cell?, hw b' hne] using this
  apart := fun j L' hj hv hgj o => by
    by_cases e : j = i
    · subst e; exact h.apart j L' hj hv hg o
    · exact h.apart j L' hj hv (by simpa [updG, e] using hgj) o
  obj := fun j blk L' hj hp hv => by
    by_cases e : j = i
    · subst e
      have : L' = L := by rw [hi] at hp; exact (Option.some.inj hp).symm
      subst this
      exact hb blk (by simpa [updG] using hj)
    · have hgj : get j = some blk := by simpa [updG, e] using hj
      exact blkAt_mono (Store.le_refl σ) (Places.le_refl φ) (hw _ (h.dis j i L' L e (by simp [hgj]) hg hp hi hv hr)) (h.obj j blk L' hgj hp hv)
  dis := fun j k Lj Lk hne hj hk pj pk vj vk => by
    have f : ∀ x, ((updG get i b) x).isSome → (get x).isSome := fun x hx => by
      by_cases e : x = i
      · subst e; exact hg
      · simpa [updG, e] using hx
    exact h.dis j k Lj Lk hne (f j hj) (f k hk) pj pk vj vk
  lt := fun j L' hj hv => by rw [hsz]; exact h.lt j L' hj hv
  tape := by rw [ht]; exact h.tape
  os := by rw [ho]; exact h.os
  output := by rw [hu]; exact h.output
  grow := by rw [hsz]; exact h.grow
  old := fun b' hb' hB => by
    have hne : b' ≠ L.b := fun e => by
      subst e
      rcases h.mine i L hi hr with hm | hm
      · exact hB hm
      · exact absurd hb' (Nat.not_lt.2 hm)
    rw [hw b' hne]; exact h.old b' hb' hB
  store := h.store
  mine := h.mine
  base := h.base
  wf := fun j blk hj => by
    by_cases e : j = i
    · exact hwf blk (by simpa [updG, e] using hj)
    · exact h.wf j blk (by simpa [updG, e] using hj)
  len := fun j K sz n f hj hp => by
    by_cases e : j = i
    · subst e; rw [hi] at hp; cases hp; exact hlen sz n f (by simpa [updG] using hj)
    · exact h.len j K sz n f (by simpa [updG, e] using hj) hp

theorem R.new (h : R κ σ φ get w) {nb : Nat} {L : Lc} {blk : Blk} {w' : World} {o : Obj} (hn : φ nb = none)
    (hheap : w'.heap = w.heap.push o) (hL : L.b = w.heap.size) (ht : w'.tape = w.tape) (ho : w'.os = w.os) (hu : w'.output = w.output)
    (hb : ∀ φ' : Places, φ.le φ' → blkAt σ φ' w' L blk) (hwf : blkWf blk)
    (hlen : ∀ sz n f, blk = .arr sz n f → n = L.n) : R κ σ (fun k => if k = nb then some L else φ k) (updG get nb (some blk)) w' := by
  have hle : φ.le (fun k => if k = nb then some L else φ k) := fun i L' hi => by
    by_cases e : i = nb
    · subst e; rw [hn] at hi; simp at hi
    · simp [e, hi]
  have hold : ∀ b', b' < w.heap.size → w'.heap[b']? = w.heap[b']? := fun b' hb' => by rw [hheap, Array.getElem?_push]; simp; omega
  refine ⟨fun b' o' y hy => ?_, fun j L' hj hv hg o' => ?_, fun j blk' L' hj hp hv => ?_, fun j k Lj Lk hne hj hk pj pk vj vk => ?_, fun j L' hj hv => ?_, by rw [ht]; exact h.tape, by rw [ho]; exact h.os,
    by rw [hu]; exact h.output, ?_, fun b' hb' hB => ?_, h.store, fun j L' hj hv => ?_, h.base, fun j b' hj => ?_, fun j K sz n f hj hp => ?_⟩
  · have := h.cell b' o' y hy
    have hb' : b' < w.heap.size := by
      rcases Nat.lt_or_ge b' w.heap.size with k | k
      · exact k
      · simp [World.cell?, Array.getElem?_eq_none k] at this
    simpa [World.cell?, hold b' hb'] using this
  · by_cases e : j = nb
    · subst e
      simp at hj; subst hj
      cases hy : σ L.b o' with
      | none => rfl
      | some y =>
        have := h.cell _ _ _ hy
        simp [World.cell?, hL] at this
    · simp [e] at hj
      exact h.apart j L' hj hv (by simpa [updG, e] using hg) o'
  · by_cases e : j = nb
    · subst e
      simp at hp; subst hp
      have : blk' = blk := by simpa [updG] using hj.symm
      subst this
      exact hb _ hle
    · simp [e] at hp
      have hgj : get j = some blk' := by simpa [updG, e] using hj
      exact blkAt_mono (Store.le_refl σ) hle (hold _ (h.lt j L' hp hv)) (h.obj j blk' L' hgj hp hv)
  · have f : ∀ x, x ≠ nb → ((updG get nb (some blk)) x).isSome → (get x).isSome := fun x e hx => by simpa [updG, e] using hx
    by_cases ej : j = nb
    · subst ej
      simp at pj; subst pj
      have ek : k ≠ j := fun e => hne e.symm
      simp [ek] at pk
      have := h.lt k Lk pk vk
      omega
    · simp [ej] at pj
      by_cases ek : k = nb
      · subst ek
        simp at pk; subst pk
        have := h.lt j Lj pj vj
        omega
      · simp [ek] at pk
        exact h.dis j k Lj Lk hne (f j ej hj) (f k ek hk) pj pk vj vk
  · rw [hheap, Array.size_push]
    by_cases e : j = nb
    · subst e; simp at hj; subst hj; omega
    · simp [e] at hj; have := h.lt j L' hj hv; omega
  · rw [hheap, Array.size_push]; have := h.grow; omega
  · rw [hold b' (by have := h.grow; omega)]; exact h.old b' hb' hB
  · by_cases e : j = nb
    · subst e; simp at hj; subst hj; exact .inr (by rw [hL]; exact h.grow)
    · simp [e] at hj; exact h.mine j L' hj hv
  · by_cases e : j = nb
    · have : b' = blk := by simpa [updG, e] using hj.symm
      subst this; exact hwf
    · exact h.wf j b' (by simpa [updG, e] using hj)
  · by_cases e : j = nb
    · subst e; simp at hp; subst hp
      have : blk = .arr sz n f := by simpa [updG] using hj
      exact hlen sz n f this
    · simp [e] at hp; exact h.len j K sz n f (by simpa [updG, e] using hj) hp

theorem R.push (h : R κ σ φ get w) {w' : World} {o : Obj} (hheap : w'.heap = w.heap.push o) (ht : w'.tape = w.tape) (ho : w'.os = w.os) (hu : w'.output = w.output) : R κ σ φ get w' := by
  have hold : ∀ b', b' < w.heap.size → w'.heap[b']? = w.heap[b']? := fun b' hb' => by rw [hheap, Array.getElem?_push]; simp; omega
  refine ⟨fun b' o' y hy => ?_, h.apart, fun j blk' L' hj hp hv => blkAt_mono (Store.le_refl σ) (Places.le_refl φ) (hold _ (h.lt j L' hp hv)) (h.obj j blk' L' hj hp hv), h.dis, fun j L' hj hv => ?_, by rw [ht]; exact h.tape, by rw [ho]; exact h.os,
    by rw [hu]; exact h.output, ?_, fun b' hb' hB => ?_, h.store, h.mine, h.base, h.wf, h.len⟩
  · have := h.cell b' o' y hy
    have hb' : b' < w.heap.size := by
      rcases Nat.lt_or_ge b' w.heap.size with k | k
      · exact k
      · simp [World.cell?, Array.getElem?_eq_none k] at this
    simpa [World.cell?, hold b' hb'] using this
  · rw [hheap, Array.size_push]; have := h.lt j L' hj hv; omega
  · rw [hheap, Array.size_push]; have := h.grow; omega
  · rw [hold b' (by have := h.grow; omega)]; exact h.old b' hb' hB
theorem R.drop (h : R κ σ φ get w) {get' : Get} (hs : ∀ i b, get' i = some b → get i = some b) : R κ σ φ get' w where
  cell := h.cell
  apart := fun i L hi hv hg o => by
    cases hb : get' i with
    | none => simp [hb] at hg
    | some b => exact h.apart i L hi hv (by simp [hs i b hb]) o
  obj := fun i blk L hi hp hv => h.obj i blk L (hs i blk hi) hp hv
  dis := fun i j Li Lj hne hi hj pi pj vi vj => by
    cases hb : get' i with
    | none => simp [hb] at hi
    | some b =>
      cases hb' : get' j with
      | none => simp [hb'] at hj
      | some b' => exact h.dis i j Li Lj hne (by simp [hs i b hb]) (by simp [hs j b' hb']) pi pj vi vj
  lt := h.lt
  tape := h.tape
  os := h.os
  output := h.output
  grow := h.grow
  old := h.old
  store := h.store
  mine := h.mine
  base := h.base
  wf := fun i b hi => h.wf i b (hs i b hi)
  len := fun i L sz n f hi hp => h.len i L sz n f (hs i _ hi) hp

theorem R.weak (h : R κ σ φ get w) {i : Nat} {b b' : Blk} (hg : get i = some b) (hb : ∀ L, blkAt σ φ w L b → blkAt σ φ w L b') (hwf : blkWf b')
    (hlen : ∀ sz n f, b' = .arr sz n f → ∃ sz' f', b = .arr sz' n f') : R κ σ φ (updG get i (some b')) w where
  cell := h.cell
  apart := fun j L hj hv hgj o => by
    by_cases e : j = i
    · subst e; exact h.apart j L hj hv (by simp [hg]) o
    · exact h.apart j L hj hv (by simpa [updG, e] using hgj) o
  obj := fun j blk L hj hp hv => by
    by_cases e : j = i
    · subst e
      have : blk = b' := by simpa [updG] using hj.symm
      subst this
      exact hb L (h.obj j b L hg hp hv)
    · exact h.obj j blk L (by simpa [updG, e] using hj) hp hv
  dis := fun j k Lj Lk hne hj hk pj pk vj vk => by
    have f : ∀ x, ((updG get i (some b')) x).isSome → (get x).isSome := fun x hx => by
      by_cases e : x = i
      · subst e; simp [hg]
      · simpa [updG, e] using hx
    exact h.dis j k Lj Lk hne (f j hj) (f k hk) pj pk vj vk
  lt := h.lt
  tape := h.tape
  os := h.os
  output := h.output
  grow := h.grow
  old := h.old
  store := h.store
  mine := h.mine
  base := h.base
  wf := fun j blk hj => by
    by_cases e : j = i
    · have : blk = b' := by simpa [updG, e] using hj.symm
      subst this; exact hwf
    · exact h.wf j blk (by simpa [updG, e] using hj)
  len := fun j K sz n f hj hp => by
    by_cases e : j = i
    · subst e
      obtain ⟨sz', f', rfl⟩ := hlen sz n f (by simpa [updG] using hj)
      exact h.len j K _ _ _ hg hp
    · exact h.len j K sz n f (by simpa [updG, e] using hj) hp

theorem R.drew (h : R κ σ φ get w) {w' : World} (hh : w'.heap = w.heap) (ht : w'.tape = w.tape) (ho : w'.os = w.os) (hu : w'.output = w.output) : R κ σ φ get w' where
  cell := fun b o y hy => by simpa [World.cell?, hh] using h.cell b o y hy
  apart := h.apart
  obj := fun i blk L hi hp hv => blkAt_mono (Store.le_refl σ) (Places.le_refl φ) (by rw [hh]) (h.obj i blk L hi hp hv)
  dis := h.dis
  lt := fun i L hi hv => by rw [hh]; exact h.lt i L hi hv
  tape := by rw [ht]; exact h.tape
  os := by rw [ho]; exact h.os
  output := by rw [hu]; exact h.output
  grow := by rw [hh]; exact h.grow
  old := fun b hb hB => by rw [hh]; exact h.old b hb hB
  store := h.store
  mine := h.mine
  base := h.base
  wf := h.wf
  len := h.len
end

end Go.Eng

namespace Go.Eng
open Go

def Pur (P : Program) (σ : Store) (φ : Places) (w : World) (s : Sem Value) (out : OpOut) : Prop :=
  ∃ v, s.run P w = .ok v w ∧ V σ φ out.val v ∧ out.upd = [] ∧ out.new = []

section
variable {P : Program} {σ : Store} {φ : Places} {w : World} {out : OpOut}

theorem Pur.mk {s : Sem Value} {x : AV} {v : Value} (hr : s.run P w = .ok v w) (hv : V σ φ x v) : Pur P σ φ w s { val := x } := ⟨v, hr, hv, rfl, rfl⟩
theorem get_one {x : AV} (h : (one x).get = some out) : out = { val := x } := by simp only [one, Tree.get, Option.some.injEq] at h; exact h.symm
theorem get_chk {c : Bool} {t : Tree OpOut} (h : (Tree.chk c t).get = some out) : c = true ∧ t.get = some out := by
  cases c <;> simp [Tree.get] at h; exact ⟨rfl, h⟩
theorem get_valT {x : Option AV} (h : (valT x).get = some out) : ∃ a, x = some a ∧ out = { val := a } := by
  cases x with
  | none => simp [valT, Tree.get] at h
  | some a => exact ⟨a, rfl, get_one h⟩
theorem get_mapOf {x : Option AV} (h : (Tree.map (fun a => ({ val := a } : OpOut)) (.ofOption x)).get = some out) : ∃ a, x = some a ∧ out = { val := a } := by
  cases x with
  | none => simp [Tree.map, Tree.ofOption, Tree.bind, Tree.get] at h
  | some a => refine ⟨a, rfl, ?_⟩; simpa [Tree.map, Tree.ofOption, Tree.bind, Tree.get] using h.symm

theorem int_beq (a b : Int) : (a == b) = decide (a = b) := rfl
theorem intE_ok {op : BinOp} {k : IntKind} {a b : Int} (hs : isShift op = false) (h : (intE op k a b).get = some out) (t : TypeId) :
    Pur P σ φ w (binOp op t (.int k a) (.int k b)) out := by
  cases op <;> simp only [intE] at h <;> simp only [isShift, reduceCtorEq] at hs
  case add => obtain rfl := get_one h; exact .mk (by simp [binOp, Op.intArith]) (V_v _)
  case sub => obtain rfl := get_one h; exact .mk (by simp [binOp, Op.intArith]) (V_v _)
  case mul => obtain rfl := get_one h; exact .mk (by simp [binOp, Op.intArith]) (V_v _)
  case quo =>
    obtain ⟨hb, h⟩ := get_chk h; obtain rfl := get_one h
    have hb' : b ≠ 0 := by simpa using hb
    exact .mk (by simp [binOp, Op.intDiv, hb']) (V_v _)
  case rem =>
    obtain ⟨hb, h⟩ := get_chk h; obtain rfl := get_one h
    have hb' : b ≠ 0 := by simpa using hb
    exact .mk (by simp [binOp, Op.intDiv, hb']) (V_v _)
  case and => obtain rfl := get_one h; exact .mk (by simp [binOp, Op.intBits, bitI]) (V_v _)
  case or => obtain rfl := get_one h; exact .mk (by simp [binOp, Op.intBits, bitI]) (V_v _)
  case xor => obtain rfl := get_one h; exact .mk (by simp [binOp, Op.intBits, bitI]) (V_v _)
  case andNot => obtain rfl := get_one h; exact .mk (by simp [binOp, Op.intBits, bitI]) (V_v _)
  case eql => obtain rfl := get_one h; exact ⟨.bool (decide (a = b)), by simp [binOp, Op.intCmp, int_beq], V_sb _, rfl, rfl⟩
  case neq => obtain rfl := get_one h; exact ⟨.bool (!decide (a = b)), by simp [binOp, Op.intCmp, bne, int_beq], V_sb _, rfl, rfl⟩
  case lss => obtain rfl := get_one h; exact .mk (by simp [binOp, Op.intCmp]) (V_sb _)
  case leq => obtain rfl := get_one h; exact .mk (by simp [binOp, Op.intCmp]) (V_sb _)
  case gtr => obtain rfl := get_one h; exact .mk (by simp [binOp, Op.intCmp]) (V_sb _)
  case geq => obtain rfl := get_one h; exact .mk (by simp [binOp, Op.intCmp]) (V_sb _)

theorem run_shl {k k' : IntKind} {a b : Int} (hb : ¬ b < 0) (t : TypeId) : (binOp .shl t (.int k a) (.int k' b)).run P w = .ok (.int k (k.wrap (a * 2 ^ (min b.toNat k.bits)))) w := by
  show (Op.shift .shl k a k' b).run P w = _
  unfold Op.shift; rw [if_neg hb]; rfl
theorem run_shr {k k' : IntKind} {a b : Int} (hb : ¬ b < 0) (t : TypeId) : (binOp .shr t (.int k a) (.int k' b)).run P w = .ok (.int k (a.fdiv (2 ^ (min b.toNat k.bits)))) w := by
  show (Op.shift .shr k a k' b).run P w = _
  unfold Op.shift; rw [if_neg hb]; rfl
theorem shiftE_ok {op : BinOp} {k k' : IntKind} {a b : Int} (h : (shiftE op k a b).get = some out) (t : TypeId) :
    Pur P σ φ w (binOp op t (.int k a) (.int k' b)) out := by
  cases op <;> simp only [shiftE, Tree.get, reduceCtorEq] at h
  case shl =>
    obtain ⟨hb, h⟩ := get_chk h; obtain rfl := get_one h
    have hb' : ¬ b < 0 := by simpa using hb
    exact .mk (run_shl hb' t) (V_v _)
  case shr =>
    obtain ⟨hb, h⟩ := get_chk h; obtain rfl := get_one h
    have hb' : ¬ b < 0 := by simpa using hb
    exact .mk (run_shr hb' t) (V_v _)

theorem toList_loop (s : ByteArray) : ∀ (n i : Nat) (r : List UInt8), s.size - i = n → ByteArray.toList.loop s i r = r.reverse ++ s.data.toList.drop i := by
  intro n
  induction n with
  | zero =>
    intro i r h
    rw [ByteArray.toList.loop]
    have : ¬ i < s.size := by omega
    rw [if_neg this, List.drop_eq_nil_of_le (by rw [Array.length_toList]; exact Nat.le_of_not_lt this)]
    simp
  | succ n ih =>
    intro i r h
    rw [ByteArray.toList.loop]
    have hlt : i < s.size := by omega
    rw [if_pos hlt, ih (i + 1) _ (by omega)]
    have hd : i < s.data.toList.length := by rw [Array.length_toList]; exact hlt
    rw [List.drop_eq_getElem_cons hd]
    have : s.get! i = s.data.toList[i] := by
      have hd' : i < s.data.size := hlt
      show s.data[i]! = _
      rw [getElem!_pos s.data i hd']; simp
    simp [this]
theorem bytes_toList (s : ByteArray) : s.toList = s.data.toList := by
  rw [ByteArray.toList, toList_loop s s.size 0 [] (by omega)]
  simp
theorem byteArray_beq (a b : ByteArray) : (a == b) = decide (a = b) := by
  show (a.data == b.data) = _
  by_cases e : a = b
  · subst e; simp
  · rw [decide_eq_false e]; exact beq_eq_false_iff_ne.2 fun h => e (ByteArray.ext h)
theorem bytes_beq (a b : ByteArray) : (a.toList == b.toList) = decide (a = b) := by
  rw [bytes_toList, bytes_toList]
  by_cases h : a = b
  · subst h; simp
  · have : a.data.toList ≠ b.data.toList := fun e => h (ByteArray.ext (Array.ext' e))
    rw [decide_eq_false h]
    exact beq_eq_false_iff_ne.2 this

theorem strE_ok {op : BinOp} {a b : ByteArray} (h : (strE op a b).get = some out) (t : TypeId) :
    Pur P σ φ w (binOp op t (.string a) (.string b)) out := by
  have e1 : ∀ op, binOp op t (.string a) (.string b) = Op.stringOp op a b := by intro op; cases op <;> rfl
  rw [e1]
  unfold Op.stringOp
  rw [bytes_beq, bytes_toList, bytes_toList]
  cases op <;> simp only [strE, Tree.get, reduceCtorEq] at h
  case add =>
    obtain ⟨hb, h⟩ := get_chk h; obtain rfl := get_one h
    have hb' : ¬ ((a.size + b.size : Nat) : Int) > IntKind.i64.max := by
      have : a.size + b.size ≤ 9223372036854775807 := by simpa using hb
      have e : IntKind.i64.max = 9223372036854775807 := by decide
      rw [e]; omega
    exact .mk (by rw [Sem.run_ite, if_neg hb']; rfl) (V_v _)
  all_goals (obtain rfl := get_one h; exact .mk rfl (V_sb _))

def scal : SK → Value → Value → Option Bool
  | .int, .int k a, .int k' b => if k = k' then some (decide (a = b)) else none
  | .str, .string a, .string b => some (decide (a = b))
  | .bool, .bool a, .bool b => some (a == b)
  | _, _, _ => none
def scalL : List SK → List Value → List Value → Option Bool
  | [], [], [] => some true
  | k :: ks, x :: xs, y :: ys => match scal k x y, scalL ks xs ys with
    | some a, some b => some (a && b)
    | _, _ => none
  | _, _, _ => none
theorem scalL_len : ∀ {ks : List SK} {X Y : List Value} {b : Bool}, scalL ks X Y = some b → X.length = ks.length ∧ Y.length = ks.length := by
  intro ks
  induction ks with
  | nil => intro X Y b h; cases X <;> cases Y <;> simp [scalL] at h ⊢
  | cons k ks ih =>
    intro X Y b h
    cases X with
    | nil => simp [scalL] at h
    | cons x X =>
      cases Y with
      | nil => simp [scalL] at h
      | cons y Y =>
        simp only [scalL] at h
        split at h
        · rename_i h2; have := ih h2; simp [this.1, this.2]
        · simp at h
theorem scalL_append : ∀ {ks r : List SK} {X Y : List Value} {b : Bool}, scalL (ks ++ r) X Y = some b →
    ∃ b1 b2, scalL ks (X.take ks.length) (Y.take ks.length) = some b1 ∧ scalL r (X.drop ks.length) (Y.drop ks.length) = some b2 ∧ b = (b1 && b2) := by
  intro ks
  induction ks with
  | nil => intro r X Y b h; exact ⟨true, b, by simp [scalL], by simpa using h, by simp⟩
  | cons k ks ih =>
    intro r X Y b h
    cases X with
    | nil => simp [scalL] at h
    | cons x X =>
      cases Y with
      | nil => simp [scalL] at h
      | cons y Y =>
        simp only [List.cons_append, scalL] at h
        split at h
        · rename_i a c h1 h2
          obtain ⟨b1, b2, e1, e2, e3⟩ := ih h2
          refine ⟨a && b1, b2, ?_, by simpa using e2, ?_⟩
          · simp [scalL, h1, e1]
          · simp at h; rw [← h, e3, Bool.and_assoc]
        · simp at h
def vOf (P : Program) (t : TypeId) (X : List Value) : Value :=
  match P.underlying t with
  | some (.struct _) => .agg X.toArray
  | _ => X.headD (.tuple #[])
theorem kinds_agg {D : Nat} {t : TypeId} {ks : List SK} (h : kindsT P D t = some ks) :
    (∃ fs, P.underlying t = some (.struct fs) ∧ aggT P t = some true) ∨ (aggT P t = some false ∧ ks.length = 1 ∧ ∀ fs, P.underlying t ≠ some (.struct fs)) := by
  cases D with
  | zero => simp [kindsT] at h
  | succ D =>
    unfold kindsT at h
    cases hu : P.underlying t with
    | none => simp [hu] at h
    | some u =>
      rw [hu] at h
      cases u <;> simp only [reduceCtorEq, Option.some.injEq] at h
      case struct fs => exact .inl ⟨fs, rfl, by simp [aggT, hu]⟩
      all_goals (subst h; exact .inr ⟨by simp [aggT, hu], rfl, by simp⟩)
theorem run_part {D : Nat} {t : TypeId} {ks : List SK} (h : kindsT P D t = some ks) (hs : szOf P t = some ks.length) {xs : Array Value} {off : Nat}
    (hl : off + ks.length ≤ xs.size) : (part t xs off).run P w = .ok (vOf P t ((xs.toList.drop off).take ks.length)) w := by
  unfold part
  rcases kinds_agg h with ⟨fs, hu, ha⟩ | ⟨ha, hk, hu⟩
  · simp only [Sem.run_bind, run_isAgg ha, run_sizeOf hs, Result.andThen_ok, if_true, Sem.run_pure, vOf, hu]
    congr 2
    apply Array.ext'
    simp [Array.toList_extract]
  · simp only [Sem.run_bind, run_isAgg ha, Result.andThen_ok, Bool.false_eq_true, if_false]
    have hlt : off < xs.size := by omega
    rw [Array.getElem?_eq_getElem hlt]
    have : vOf P t ((xs.toList.drop off).take ks.length) = xs[off] := by
      unfold vOf
      rw [hk, List.drop_eq_getElem_cons (by simpa using hlt)]
      cases hu' : P.underlying t with
      | none => simp
      | some u => cases u <;> first | exact absurd hu' (hu _) | simp
    rw [this]; rfl
theorem equalIn_scal {D d : Nat} {t : TypeId} {k : SK} {x y : Value} {b : Bool} (hk : kindsT P (D + 1) t = some [k])
    (hs : ∀ fs, P.underlying t ≠ some (.struct fs)) (h : scal k x y = some b) : (Op.equalIn (d + 1) t x y).run P w = .ok b w := by
  unfold kindsT at hk
  cases hu : P.underlying t with
  | none => simp [hu] at hk
  | some u =>
    rw [hu] at hk
    unfold Op.equalIn
    simp only [Sem.run_bind, run_underlying hu, Result.andThen_ok]
    cases u <;> simp only [Option.some.injEq, List.cons.injEq, and_true, reduceCtorEq] at hk
    case int kk =>
      subst hk
      unfold scal at h
      split at h <;> first | exact SK.noConfusion ‹_› | skip
      all_goals try (simp at h; done)
      split at h
      · rename_i e; subst e
        simp at h; subst h
        simp [int_beq]
      · simp at h
    case string =>
      subst hk
      unfold scal at h
      split at h <;> first | exact SK.noConfusion ‹_› | skip
      all_goals try (simp at h; done)
      simp at h; subst h
      simp [byteArray_beq]
    case bool =>
      subst hk
      unfold scal at h
      split at h <;> first | exact SK.noConfusion ‹_› | skip
      all_goals try (simp at h; done)
      simp at h; subst h
      simp
    case struct fs => exact absurd hu (hs fs)
theorem equalIn_plain : ∀ (D : Nat) {t : TypeId} {ks : List SK} {d : Nat} {X Y : List Value} {b : Bool}, kindsT P D t = some ks → D ≤ d → scalL ks X Y = some b →
    (Op.equalIn d t (vOf P t X) (vOf P t Y)).run P w = .ok b w := by
  intro D
  induction D with
  | zero => intro t ks d X Y b h; simp [kindsT] at h
  | succ D ih =>
    intro t ks d X Y b h hd hb
    obtain ⟨d, rfl⟩ : ∃ e, d = e + 1 := ⟨d - 1, by omega⟩
    rcases kinds_agg h with ⟨fs, hu, _⟩ | ⟨_, hk, hu⟩
    · have hf : kindsFs P (kindsT P D) 0 fs.toList = some ks ∧ P.stoodInHeld t = false := by
        unfold kindsT at h
        rw [hu] at h
        simp only at h
        split at h
        · simp at h
        · rename_i hq; exact ⟨h, by simpa using hq⟩
      have hlen := scalL_len hb
      have loop : ∀ (body : Field → Option Bool × Unit → Sem (ForInStep (Option Bool × Unit))), (∀ (f : Field) (s : Option Bool × Unit), f.name ≠ "_" → body f s = (do
              let a ← part f.type X.toArray f.offset
              let b ← part f.type Y.toArray f.offset
              let e ← Op.equalIn d f.type a b
              if e = false then pure (ForInStep.done (some false, ())) else pure (ForInStep.yield (none, ())))) →
          ∀ (l : List Field) (off : Nat) (r : List SK) (c : Bool), kindsFs P (kindsT P D) off l = some r → off + r.length = X.length → X.length = Y.length →
          scalL r (X.drop off) (Y.drop off) = some c →
          (forIn l ((none, ()) : Option Bool × Unit) body).run P w = .ok (bif c then (none, ()) else (some false, ())) w := by
        intro body hbody
        intro l
        induction l with
        | nil =>
          intro off r c hk _ _ hc
          simp only [kindsFs, Option.some.injEq] at hk
          subst hk
          have : c = true := by
            cases hx : X.drop off <;> cases hy : Y.drop off <;> simp [scalL, hx, hy] at hc
            exact hc
          subst this
          simp
        | cons f l ihl =>
          intro off r c hk hoff hxy hc
          simp only [kindsFs] at hk
          split at hk
          · rename_i hn
            obtain ⟨hn, ho⟩ := hn
            split at hk
            · rename_i kf hkf
              split at hk
              · rename_i hsz
                split at hk
                · rename_i r' hr'
                  simp only [Option.some.injEq] at hk
                  subst hk
                  obtain ⟨c1, c2, e1, e2, e3⟩ := scalL_append hc
                  simp only [List.length_append] at hoff
                  rw [List.forIn_cons, hbody f _ hn, ho]
                  simp only [Sem.run_bind]
                  rw [run_part hkf hsz (xs := X.toArray) (by simp; omega), Result.andThen_ok, run_part hkf hsz (xs := Y.toArray) (by simp; omega), Result.andThen_ok]
                  rw [ih hkf (by omega) e1, Result.andThen_ok]
                  cases c1 with
                  | false =>
                    simp at e3; subst e3
                    simp
                  | true =>
                    simp at e3; subst e3
                    simp only [Bool.true_eq_false, if_false, Sem.run_pure, Result.andThen_ok]
                    exact ihl (off + kf.length) r' c hr' (by omega) hxy (by rw [← List.drop_drop, ← List.drop_drop]; exact e2)
                · simp at hk
              · simp at hk
            · simp at hk
          · simp at hk
      unfold Op.equalIn
      simp only [Sem.run_bind, run_underlying hu, Result.andThen_ok, run_program, hf.2, vOf, hu]
      rw [← Array.forIn_toList]
      simp only [Bool.false_eq_true, if_false]
      rw [Sem.run_bind, loop _ (fun f s h => by simp [h]) fs.toList 0 ks b hf.1 (by rw [hlen.1]; omega) (by rw [hlen.1, hlen.2]) (by simpa using hb)]
      cases b <;> rfl
    · obtain ⟨k, rfl⟩ : ∃ k, ks = [k] := by
        match ks, hk with
        | [k], _ => exact ⟨k, rfl⟩
      obtain ⟨h1, h2⟩ := scalL_len hb
      match X, Y, h1, h2, hb with
      | [x], [y], _, _, hb =>
        have : vOf P t [x] = x ∧ vOf P t [y] = y := by
          unfold vOf
          cases hu' : P.underlying t with
          | none => simp
          | some u => cases u <;> first | exact absurd hu' (hu _) | simp
        rw [this.1, this.2]
        have hb' : scal k x y = some b := by
          simp only [scalL] at hb
          split at hb
          · rename_i a c h3 h4; simp at h4; subst h4; simp at hb; rw [h3, hb]
          · simp at hb
        exact equalIn_scal h hu hb'
end
end Go.Eng

namespace Go.Eng
open Go

section
variable {P : Program} {σ : Store} {φ : Places} {w : World} {out : OpOut}

theorem V.agg_inv {cs : List AV} {y : Value} (h : V σ φ (.agg cs) y) : ∃ ys, y = .agg ys ∧ cs.length = ys.size ∧ ∀ (j : Nat) (c : AV) (z : Value), cs[j]? = some c → ys[j]? = some z → V σ φ c z := by
  cases h with
  | base h => cases h
  | agg hl h => exact ⟨_, rfl, hl, h⟩
theorem V.tup_inv {cs : List AV} {y : Value} (h : V σ φ (.tup cs) y) : ∃ ys, y = .tuple ys ∧ cs.length = ys.size ∧ ∀ (j : Nat) (c : AV) (z : Value), cs[j]? = some c → ys[j]? = some z → V σ φ c z := by
  cases h with
  | base h => cases h
  | tup hl h => exact ⟨_, rfl, hl, h⟩

theorem cellEq_scal {k : SK} {x y : AV} {vx vy : Value} {b : Bool} (h : cellEq k x y = some b) (hx : V σ φ x vx) (hy : V σ φ y vy) : scal k vx vy = some b := by
  unfold cellEq at h
  split at h
  · cases hx.v_eq; cases hy.v_eq; exact h
  · cases hx.v_eq; cases hy.v_eq; exact h
  · cases hx.v_eq; cases hy.v_eq; exact h
  · cases hx.sb_eq; cases hy.v_eq; exact h
  · cases hx.v_eq; cases hy.sb_eq; exact h
  · cases hx.sb_eq; cases hy.sb_eq; exact h
  · simp at h
theorem cellsEq_scal : ∀ {ks : List SK} {xs ys : List AV} {X Y : List Value} {b : Bool}, cellsEq ks xs ys = some b → VL σ φ xs X → VL σ φ ys Y → scalL ks X Y = some b := by
  intro ks
  induction ks with
  | nil =>
    intro xs ys X Y b h hx hy
    cases xs <;> cases ys <;> simp [cellsEq] at h
    have e1 : X = [] := List.eq_nil_of_length_eq_zero hx.1.symm
    have e2 : Y = [] := List.eq_nil_of_length_eq_zero hy.1.symm
    subst e1; subst e2
    simp [scalL, h]
  | cons k ks ih =>
    intro xs ys X Y b h hx hy
    cases xs with
    | nil => simp [cellsEq] at h
    | cons x xs =>
      cases ys with
      | nil => simp [cellsEq] at h
      | cons y ys =>
        cases X with
        | nil => have := hx.1; simp at this
        | cons vx X =>
          cases Y with
          | nil => have := hy.1; simp at this
          | cons vy Y =>
            have hx0 : V σ φ x vx := hx.2 0 x vx (by simp) (by simp)
            have hy0 : V σ φ y vy := hy.2 0 y vy (by simp) (by simp)
            have hxs : VL σ φ xs X := ⟨by have := hx.1; simpa using this, fun j c z hc hz => hx.2 (j + 1) c z (by simpa using hc) (by simpa using hz)⟩
            have hys : VL σ φ ys Y := ⟨by have := hy.1; simpa using this, fun j c z hc hz => hy.2 (j + 1) c z (by simpa using hc) (by simpa using hz)⟩
            unfold cellsEq at h
            split at h
            · split at h
              · have e1 : X = [] := List.eq_nil_of_length_eq_zero hxs.1.symm
                have e2 : Y = [] := List.eq_nil_of_length_eq_zero hys.1.symm
                subst e1; subst e2
                simp [scalL, cellEq_scal h hx0 hy0]
              · simp at h
            · split at h
              · rename_i a c h1 h2
                simp only [scalL, cellEq_scal h1 hx0 hy0, ih h2 hxs hys]
                exact h
              · simp at h

theorem kinds_guard : ∀ (D : Nat) {t : TypeId} {ks : List SK} (d : Nat), kindsT P D t = some ks → D ≤ d → P.eqGuardType d t = false := by
  intro D
  induction D with
  | zero => intro t ks d h; simp [kindsT] at h
  | succ D ih =>
    intro t ks d h hd
    obtain ⟨d, rfl⟩ : ∃ e, d = e + 1 := ⟨d - 1, by omega⟩
    unfold kindsT at h
    unfold Program.eqGuardType
    cases hu : P.underlying t with
    | none => simp [hu] at h
    | some u =>
      rw [hu] at h
      cases u <;> simp only [reduceCtorEq, Option.some.injEq] at h <;> try rfl
      case struct fs =>
        split at h
        · simp at h
        · have : ∀ (l : List Field) (off : Nat) (r : List SK), kindsFs P (kindsT P D) off l = some r → ∀ f ∈ l, P.eqGuardType d f.type = false := by
            intro l
            induction l with
            | nil => intro off r _ f hf; simp at hf
            | cons g l ihl =>
              intro off r hk f hf
              simp only [kindsFs] at hk
              split at hk
              · split at hk
                · rename_i kf hkf
                  split at hk
                  · split at hk
                    · rename_i r' hr'
                      rcases List.mem_cons.1 hf with rfl | hf
                      · exact ih d hkf (by omega)
                      · exact ihl _ _ hr' f hf
                    · simp at hk
                  · simp at hk
                · simp at hk
              · simp at hk
          simp only [Array.any_eq_false]
          intro i hi
          have := this fs.toList 0 ks h fs[i] (by simp)
          simp [this]

theorem eqGuard_quiet {op : BinOp} {t : TypeId} {x y : Operand} {a b : Value} (h : ¬ (a = .nilIface ∧ b = .nilIface)) (h' : ∀ p q, ¬ (a = .agg p ∧ b = .agg q)) :
    (eqGuard op t x y a b).run P w = .ok () w := by
  unfold eqGuard
  generalize (!(match op with
    | .eql => true
    | .neq => true
    | _ => false)) = c
  cases c with
  | true => rfl
  | false =>
    simp only [Bool.false_eq_true, if_false]
    split
    · exact absurd ⟨rfl, rfl⟩ h
    · exact absurd ⟨rfl, rfl⟩ (h' _ _)
    · rfl
theorem eqGuard_agg {op : BinOp} {t : TypeId} {x y : Operand} {p q : Array Value} (h : P.eqGuardType P.depth t = false) : (eqGuard op t x y (.agg p) (.agg q)).run P w = .ok () w := by
  unfold eqGuard
  generalize (!(match op with
    | .eql => true
    | .neq => true
    | _ => false)) = c
  cases c with
  | true => rfl
  | false => simp [h]
theorem eqGuard_off {op : BinOp} {t : TypeId} {x y : Operand} {a b : Value} (h : op ≠ .eql ∧ op ≠ .neq) : (eqGuard op t x y a b).run P w = .ok () w := by
  unfold eqGuard
  cases op <;> simp_all

theorem depth_ge : 20 ≤ P.depth := by unfold Program.depth Made.depth; omega

theorem VL_of_agg {cs : List AV} {ys : Array Value} (hl : cs.length = ys.size) (h : ∀ (j : Nat) (c : AV) (z : Value), cs[j]? = some c → ys[j]? = some z → V σ φ c z) : VL σ φ cs ys.toList :=
  ⟨by simpa using hl, fun j c y hc hy => h j c y hc (by simpa using hy)⟩

theorem boolOf_V {x : AV} {v : Value} {b : Bool} (h : boolOf x = some b) (hx : V σ φ x v) : v = .bool b := by
  unfold boolOf at h
  split at h
  · simp at h; subst h; exact hx.sb_eq
  · simp at h; subst h; exact hx.v_eq
  · simp at h
theorem isPtr_V {x : AV} {v : Value} (h : isPtr x = true) (hx : V σ φ x v) : ∃ a, v = .pointer (some a) := by
  cases hx with
  | base h0 => cases h0 <;> first | exact ⟨_, rfl⟩ | simp [isPtr] at h
  | ptr _ _ => exact ⟨_, rfl⟩
  | ap _ _ => exact ⟨_, rfl⟩
  | eptr _ _ _ => exact ⟨_, rfl⟩
  | _ => simp [isPtr] at h
theorem eql_of_equalIn {t : TypeId} {vx vy : Value} {b : Bool} (h : (Op.equalIn (9999 + 1) t vx vy).run P w = .ok b w) (hn : ∀ k n k' m, ¬ (vx = .int k n ∧ vy = .int k' m))
    (hf : ∀ k n k' m, ¬ (vx = .float k n ∧ vy = .float k' m)) (hc : ∀ k n l k' m l', ¬ (vx = .complex k n l ∧ vy = .complex k' m l')) (hs : ∀ p q, ¬ (vx = .string p ∧ vy = .string q)) :
    (binOp .eql t vx vy).run P w = .ok (.bool b) w ∧ (binOp .neq t vx vy).run P w = .ok (.bool (!b)) w := by
  have h' : (Op.equal t vx vy).run P w = .ok b w := h
  constructor
  · unfold binOp
    split
    all_goals try (rename_i e _ _; cases e; done)
    all_goals try (exact absurd ⟨rfl, rfl⟩ (hn _ _ _ _))
    all_goals try (exact absurd ⟨rfl, rfl⟩ (hf _ _ _ _))
    all_goals try (exact absurd ⟨rfl, rfl⟩ (hc _ _ _ _ _ _))
    all_goals try (exact absurd ⟨rfl, rfl⟩ (hs _ _))
    all_goals first
      | (simp only [Sem.run_bind, h', Result.andThen_ok]; rfl)
      | (exfalso; simp_all; done)
  · unfold binOp
    split
    all_goals try (rename_i e _ _; cases e; done)
    all_goals try (exact absurd ⟨rfl, rfl⟩ (hn _ _ _ _))
    all_goals try (exact absurd ⟨rfl, rfl⟩ (hf _ _ _ _))
    all_goals try (exact absurd ⟨rfl, rfl⟩ (hc _ _ _ _ _ _))
    all_goals try (exact absurd ⟨rfl, rfl⟩ (hs _ _))
    all_goals first
      | (simp only [Sem.run_bind, h', Result.andThen_ok]; rfl)
      | (exfalso; simp_all; done)

theorem eqE_ok {t : TypeId} {x y : AV} {a : AV} {vx vy : Value} (h : eqE P t x y = some a) (hx : V σ φ x vx) (hy : V σ φ y vy) :
    ∃ b : Bool, (a = .sb b ∨ a = .v (.bool b)) ∧
      (∀ (op : BinOp) (ox oy : Operand), (eqGuard op t ox oy vx vy).run P w = .ok () w) ∧
      (binOp .eql t vx vy).run P w = .ok (.bool b) w ∧ (binOp .neq t vx vy).run P w = .ok (.bool (!b)) w := by
  unfold eqE at h
  split at h
  · rename_i hu
    split at h
    · rename_i b1 b2 h1 h2
      simp at h; subst h
      obtain rfl := boolOf_V h1 hx
      obtain rfl := boolOf_V h2 hy
      refine ⟨_, .inl rfl, fun _ _ _ => eqGuard_quiet (by simp) (by simp), eql_of_equalIn ?_ (by simp) (by simp) (by simp) (by simp)⟩
      unfold Op.equalIn
      simp [run_underlying hu]
    · simp at h
  · rename_i hu
    split at h
    · split at h
      · simp at h; subst h
        cases hx.v_eq; cases hy.v_eq
        refine ⟨_, .inr rfl, fun _ _ _ => eqGuard_quiet (by simp) (by simp), eql_of_equalIn ?_ (by simp) (by simp) (by simp) (by simp)⟩
        unfold Op.equalIn
        simp [run_underlying hu]
      · split at h
        · rename_i hp
          simp at h; subst h
          obtain ⟨ad, rfl⟩ := isPtr_V hp hx
          cases hy.v_eq
          refine ⟨_, .inr rfl, fun _ _ _ => eqGuard_quiet (by simp) (by simp), eql_of_equalIn ?_ (by simp) (by simp) (by simp) (by simp)⟩
          unfold Op.equalIn
          simp [run_underlying hu]
        · simp at h
    · simp at h
  · rename_i hu
    split at h
    · simp at h; subst h
      cases hx.v_eq; cases hy.v_eq
      refine ⟨_, .inr rfl, fun _ _ _ => eqGuard_quiet (by simp) (by simp), eql_of_equalIn ?_ (by simp) (by simp) (by simp) (by simp)⟩
      unfold Op.equalIn
      simp [run_underlying hu]
    · simp at h; subst h
      cases hy.v_eq
      cases hx with
      | base h0 => cases h0
      | hs _ _ _ _ _ _ =>
        refine ⟨_, .inr rfl, fun _ _ _ => eqGuard_quiet (by simp) (by simp), eql_of_equalIn ?_ (by simp) (by simp) (by simp) (by simp)⟩
        unfold Op.equalIn
        simp [run_underlying hu]
      | hsnil _ _ _ hn => simp at hn
    · simp at h
  · rename_i hu
    split at h
    · simp at h; subst h
      cases hy.v_eq
      cases hx with
      | base h0 => cases h0
      | map _ _ =>
        refine ⟨_, .inr rfl, fun _ _ _ => eqGuard_quiet (by simp) (by simp), eql_of_equalIn ?_ (by simp) (by simp) (by simp) (by simp)⟩
        unfold Op.equalIn
        simp [run_underlying hu]
    · simp at h; subst h
      cases hx.v_eq; cases hy.v_eq
      refine ⟨_, .inr rfl, fun _ _ _ => eqGuard_quiet (by simp) (by simp), eql_of_equalIn ?_ (by simp) (by simp) (by simp) (by simp)⟩
      unfold Op.equalIn
      simp [run_underlying hu]
    · simp at h
  · rename_i hu
    split at h
    · simp at h; subst h
      cases hy.v_eq
      cases hx with
      | base h0 => cases h0
      | fn _ _ _ _ =>
        refine ⟨_, .inr rfl, fun _ _ _ => eqGuard_quiet (by simp) (by simp), eql_of_equalIn ?_ (by simp) (by simp) (by simp) (by simp)⟩
        unfold Op.equalIn
        simp [run_underlying hu]
    · simp at h; subst h
      cases hx.v_eq; cases hy.v_eq
      refine ⟨_, .inr rfl, fun _ _ _ => eqGuard_quiet (by simp) (by simp), eql_of_equalIn ?_ (by simp) (by simp) (by simp) (by simp)⟩
      unfold Op.equalIn
      simp [run_underlying hu]
    · simp at h
  · rename_i fs hu
    split at h
    · rename_i xs ys
      split at h
      · rename_i ks hk
        split at h
        · rename_i b hb
          simp at h; subst h
          obtain ⟨X, rfl, hl, hX⟩ := hx.agg_inv
          obtain ⟨Y, rfl, hl', hY⟩ := hy.agg_inv
          have hsc := cellsEq_scal hb (VL_of_agg hl hX) (VL_of_agg hl' hY)
          have heq := equalIn_plain (P := P) (w := w) 20 (d := 9999 + 1) hk (by decide) hsc
          have eX : vOf P t X.toList = .agg X := by simp [vOf, hu]
          have eY : vOf P t Y.toList = .agg Y := by simp [vOf, hu]
          rw [eX, eY] at heq
          exact ⟨b, .inl rfl, fun _ _ _ => eqGuard_agg (kinds_guard 20 _ hk depth_ge), eql_of_equalIn heq (by simp) (by simp) (by simp) (by simp)⟩
        · simp at h
      · simp at h
    · simp at h
  · simp at h

theorem get_map {α : Type} {f : α → OpOut} {t : Tree α} (h : (Tree.map f t).get = some out) : ∃ a, t.get = some a ∧ out = f a := by
  obtain ⟨a, h1, h2⟩ := Tree.get_bind_some h
  simp only [Tree.get, Option.some.injEq] at h2
  exact ⟨a, h1, h2.symm⟩
theorem eqT_ok {κ : Ctx} {get : Get} {t : TypeId} {x y a : AV} {vx vy : Value} (hR : R κ σ φ get w) (h : (eqT P get t x y).get = some a) (hx : V σ φ x vx) (hy : V σ φ y vy) :
    ∃ b : Bool, (a = .sb b ∨ a = .v (.bool b)) ∧
      (∀ (op : BinOp) (ox oy : Operand), (eqGuard op t ox oy vx vy).run P w = .ok () w) ∧
      (binOp .eql t vx vy).run P w = .ok (.bool b) w ∧ (binOp .neq t vx vy).run P w = .ok (.bool (!b)) w := by
  unfold eqT at h
  split at h
  · rename_i n hn
    unfold hsNil at hn
    split at hn
    · rename_i el hu
      split at hn
      · simp only [Option.some.injEq] at hn
        subst hn
        rename_i i e k p q
        dsimp only at h
        have hc : (Nat.blt 0 k || longer get i e) = true := by
          cases hb : (Nat.blt 0 k || longer get i e) with
          | true => rfl
          | false => rw [hb] at h; simp [Tree.get] at h
        rw [hc] at h
        simp only [Tree.get, Option.some.injEq] at h
        subst h
        cases hy.v_eq
        have fin : ∀ (ad : Addr) (n cap : Nat), ∃ b : Bool, ((AV.v (.bool false)) = .sb b ∨ (AV.v (.bool false)) = .v (.bool b)) ∧
            (∀ (op : BinOp) (ox oy : Operand), (eqGuard op t ox oy (.slice (some ad) n cap) (.slice none p q)).run P w = .ok () w) ∧
            (binOp .eql t (.slice (some ad) n cap) (.slice none p q)).run P w = .ok (.bool b) w ∧ (binOp .neq t (.slice (some ad) n cap) (.slice none p q)).run P w = .ok (.bool (!b)) w := by
          intro ad n cap
          refine ⟨_, .inr rfl, fun _ _ _ => eqGuard_quiet (by simp) (by simp), eql_of_equalIn ?_ (by simp) (by simp) (by simp) (by simp)⟩
          unfold Op.equalIn
          simp [run_underlying hu]
        cases hx with
        | base h0 => cases h0
        | hs _ _ _ _ _ _ => exact fin _ _ _
        | hsnil A hL he hn =>
          exfalso
          subst hn
          unfold longer at hc
          split at hc
          · rename_i N f hg
            have := hR.len _ _ _ _ _ hg hL
            rw [Bool.or_eq_true] at hc
            rcases hc with hc | hc
            · simp [Nat.blt_eq] at hc
            · rw [Nat.blt_eq] at hc; omega
          · simp at hc
      · simp at hn
    · simp at hn
  · split at h
    · rename_i b hn
      unfold slNil at hn
      split at hn
      · rename_i el hu
        split at hn
        · simp only [Option.some.injEq] at hn
          subst hn
          rename_i sz n f p q _
          have hc : (Nat.blt 0 n || mkd (f n)) = true := by
            cases hb : (Nat.blt 0 n || mkd (f n)) with
            | true => rfl
            | false => rw [hb] at h; simp [Tree.get] at h
          rw [hc] at h
          simp only [Tree.get, Option.some.injEq] at h
          subst h
          cases hy.v_eq
          have fin : ∀ (ad : Addr) (n cap : Nat), ∃ b : Bool, ((AV.v (.bool false)) = .sb b ∨ (AV.v (.bool false)) = .v (.bool b)) ∧
              (∀ (op : BinOp) (ox oy : Operand), (eqGuard op t ox oy (.slice (some ad) n cap) (.slice none p q)).run P w = .ok () w) ∧
              (binOp .eql t (.slice (some ad) n cap) (.slice none p q)).run P w = .ok (.bool b) w ∧ (binOp .neq t (.slice (some ad) n cap) (.slice none p q)).run P w = .ok (.bool (!b)) w := by
            intro ad n cap
            refine ⟨_, .inr rfl, fun _ _ _ => eqGuard_quiet (by simp) (by simp), eql_of_equalIn ?_ (by simp) (by simp) (by simp) (by simp)⟩
            unfold Op.equalIn
            simp [run_underlying hu]
          cases hx with
          | base h0 =>
            cases h0 with
            | sl _ _ _ ad cap _ _ _ _ _ _ _ => exact fin _ _ _
            | slnil _ _ _ A cap _ hn ha =>
              cases A with
              | some a => exact fin _ _ _
              | none =>
                subst hn
                rw [ha rfl] at hc
                simp at hc
        · simp at hn
      · simp at hn
    · exact eqE_ok (by simpa using h) hx hy
theorem binE_ok {κ : Ctx} {get : Get} {op : BinOp} {t : TypeId} {x y : AV} {vx vy : Value} {ox oy : Operand} (hR : R κ σ φ get w) (h : (binE P get op t x y).get = some out) (hx : V σ φ x vx) (hy : V σ φ y vy) :
    Pur P σ φ w (do eqGuard op t ox oy vx vy; binOp op t vx vy) out := by
  unfold binE at h
  split at h
  · rename_i k a k' b
    cases hx.v_eq; cases hy.v_eq
    have hg : (eqGuard op t ox oy (.int k a) (.int k' b)).run P w = .ok () w := eqGuard_quiet (by simp) (by simp)
    split at h
    · obtain ⟨v, h1, h2⟩ := shiftE_ok (P := P) (σ := σ) (φ := φ) (w := w) (k' := k') h t
      exact ⟨v, by rw [Sem.run_bind, hg, Result.andThen_ok]; exact h1, h2⟩
    · rename_i hsft
      split at h
      · rename_i e; subst e
        obtain ⟨v, h1, h2⟩ := intE_ok (P := P) (σ := σ) (φ := φ) (w := w) hsft h t
        exact ⟨v, by rw [Sem.run_bind, hg, Result.andThen_ok]; exact h1, h2⟩
      · simp [Tree.get] at h
  · cases hx.v_eq; cases hy.v_eq
    obtain ⟨v, h1, h2⟩ := strE_ok (P := P) (σ := σ) (φ := φ) (w := w) h t
    exact ⟨v, by rw [Sem.run_bind, eqGuard_quiet (by simp) (by simp), Result.andThen_ok]; exact h1, h2⟩
  · split at h
    · obtain ⟨a, ha, rfl⟩ := get_map h
      obtain ⟨b, hab, hg, he, _⟩ := eqT_ok hR ha hx hy
      refine ⟨.bool b, by rw [Sem.run_bind, hg, Result.andThen_ok]; exact he, ?_, rfl, rfl⟩
      rcases hab with rfl | rfl
      · exact V_sb _
      · exact V_v _
    · obtain ⟨a, ha, rfl⟩ := get_map h
      obtain ⟨a', ha', ha⟩ := Tree.get_bind_some ha
      obtain ⟨b, hab, hg, _, he⟩ := eqT_ok hR ha' hx hy
      refine ⟨.bool (!b), by rw [Sem.run_bind, hg, Result.andThen_ok]; exact he, ?_, rfl, rfl⟩
      rw [Tree.get_ofOption] at ha
      rcases hab with rfl | rfl
      · simp [notE] at ha; subst ha; exact V_sb _
      · simp [notE] at ha; subst ha; exact V_v _
    · simp [Tree.get] at h

theorem unE_ok {op : UnOp} {x : AV} {vx : Value} (h : (unE op x).get = some out) (hx : V σ φ x vx) : Pur P σ φ w (Op.unary op vx) out := by
  unfold unE at h
  split at h
  · obtain ⟨a, ha, rfl⟩ := get_mapOf h
    unfold notE at ha
    split at ha
    · simp at ha; subst ha; cases hx.sb_eq; exact .mk rfl (V_sb _)
    · simp at ha; subst ha; cases hx.v_eq; exact .mk rfl (V_v _)
    · simp at ha
  · obtain rfl := get_one h; cases hx.v_eq; exact .mk rfl (V_v _)
  · obtain rfl := get_one h; cases hx.v_eq; exact .mk rfl (V_v _)
  · simp [Tree.get] at h
end
end Go.Eng

namespace Go.Eng
open Go

section
variable {P : Program} {κ : Ctx} {σ : Store} {φ : Places} {get : Get} {w : World} {out : OpOut}

theorem take_get {α : Type} {l : List α} {n j : Nat} {x : α} (h : (l.take n)[j]? = some x) : j < n ∧ l[j]? = some x := by
  rw [List.getElem?_take] at h
  split at h
  · exact ⟨‹_›, h⟩
  · simp at h

theorem flatE_succ (f : Nat → List AV) (n : Nat) : flatE f (n + 1) = flatE f n ++ f n := by
  unfold flatE
  rw [List.range_succ, List.flatMap_append]
  simp
theorem flatE_len {f : Nat → List AV} {sz : Nat} : ∀ {n : Nat}, (∀ e, e < n → (f e).length = sz) → (flatE f n).length = n * sz
  | 0, _ => by simp [flatE]
  | n + 1, h => by
    rw [flatE_succ, List.length_append, flatE_len fun e he => h e (by omega), h n (by omega), Nat.succ_mul]
theorem flatE_get {f : Nat → List AV} {sz : Nat} : ∀ {n : Nat}, (∀ e, e < n → (f e).length = sz) → ∀ {j : Nat} {x : AV}, (flatE f n)[j]? = some x → ∃ e k, e < n ∧ j = e * sz + k ∧ (f e)[k]? = some x
  | 0, _, j, x, hx => by simp [flatE] at hx
  | n + 1, h, j, x, hx => by
    rw [flatE_succ] at hx
    have hl := flatE_len (n := n) fun e he => h e (by omega)
    rcases Nat.lt_or_ge j (n * sz) with hj | hj
    · rw [List.getElem?_append_left (by omega)] at hx
      obtain ⟨e, k, h1, h2, h3⟩ := flatE_get (fun e he => h e (by omega)) hx
      exact ⟨e, k, by omega, h2, h3⟩
    · rw [List.getElem?_append_right (by omega), hl] at hx
      exact ⟨n, j - n * sz, by omega, by omega, hx⟩
theorem cellsAt_ok {m : Nat} {p : AV} {cs : List AV} {vp : Value} (h : cellsAt get m p = some cs) (hp : V σ φ p vp) (hR : R κ σ φ get w) :
    ∃ ad ys, vp = .pointer (some ad) ∧ ys.length = m ∧ (∀ (j : Nat) (y : Value), ys[j]? = some y → w.cell? (ad.add j) = some y) ∧ VL σ φ cs ys := by
  unfold cellsAt at h
  split at h
  · rename_i i o
    split at h
    · rename_i cs0 hg
      split at h
      · rename_i hlen
        simp only [decide_eq_true_eq] at hlen
        simp only [Option.some.injEq] at h
        subst h
        cases hp with
        | base h0 => cases h0
        | @ptr _ _ L hL hv =>
          obtain ⟨c, hrow, hcs, hb, hc⟩ := hR.obj i _ L hg hL hv
          refine ⟨_, (c.toList.drop (L.base + o)).take m, rfl, by simp; omega, fun j y hy => ?_, ?_, fun j x y hx hy => ?_⟩
          · obtain ⟨hj, hy⟩ := take_get hy
            rw [Addr.add_none rfl, hrow.cell]
            simpa using hy
          · simp; omega
          · obtain ⟨hj, hx⟩ := take_get hx
            obtain ⟨_, hy⟩ := take_get hy
            have hx' : cs0[o + j]? = some x := by simpa using hx
            obtain ⟨y', hy', hv⟩ := hc _ _ hx'
            have : y' = y := by
              have e : c[L.base + o + j]? = some y := by simpa using hy
              rw [show L.base + (o + j) = L.base + o + j by omega] at hy'
              rw [e] at hy'; exact (Option.some.inj hy').symm
            subst this; exact hv
      · simp at h
    · simp at h
  · rename_i i e o
    split at h
    · rename_i sz n f hg
      split at h
      · rename_i hlen
        simp only [decide_eq_true_eq] at hlen
        simp only [Option.some.injEq] at h
        subst h
        cases hp with
        | base h0 => cases h0
        | @eptr _ _ _ L hL hv he =>
          obtain ⟨e1, e2, c, hrow, hcs, hb, hc⟩ := hR.obj i _ L hg hL hv
          subst e1; subst e2
          obtain ⟨hl, hc⟩ := hc e he
          have hbd : L.base + e * L.sz + o + m ≤ c.size := by
            have : (e + 1) * L.sz ≤ L.n * L.sz := Nat.mul_le_mul_right _ he
            rw [Nat.succ_mul] at this; omega
          refine ⟨_, (c.toList.drop (L.base + e * L.sz + o)).take m, rfl, by simp; omega, fun j y hy => ?_, ?_, fun j x y hx hy => ?_⟩
          · obtain ⟨hj, hy⟩ := take_get hy
            rw [Addr.add_none rfl, hrow.cell]
            simpa using hy
          · simp; omega
          · obtain ⟨hj, hx⟩ := take_get hx
            obtain ⟨_, hy⟩ := take_get hy
            have hx' : (f e)[o + j]? = some x := by simpa using hx
            obtain ⟨y', hy', _, hv⟩ := hc _ _ hx'
            have : y' = y := by
              have e : c[L.base + e * L.sz + o + j]? = some y := by simpa using hy
              rw [← Nat.add_assoc] at hy'
              rw [e] at hy'; exact (Option.some.inj hy').symm
            subst this; exact .base hv
      · simp at h
    · simp at h
  · rename_i i
    split at h
    · rename_i sz n f hg
      split at h
      · rename_i hlen
        simp only [decide_eq_true_eq] at hlen
        simp only [Option.some.injEq] at h
        subst h
        cases hp with
        | base h0 => cases h0
        | @ap _ L hL hv =>
          obtain ⟨e1, e2, c, hrow, hcs, hb, hc⟩ := hR.obj i _ L hg hL hv
          have hfl : ∀ e, e < n → (f e).length = sz := fun e he => (hc e he).1
          have hlf := flatE_len hfl
          refine ⟨_, (c.toList.drop L.base).take m, rfl, by simp; omega, fun j y hy => ?_, by rw [hlf]; simp; omega, fun j x y hx hy => ?_⟩
          · obtain ⟨hj, hy⟩ := take_get hy
            rw [Addr.add_none rfl, hrow.cell]
            simpa using hy
          · obtain ⟨_, hy⟩ := take_get hy
            obtain ⟨e, k, h1, h2, h3⟩ := flatE_get hfl hx
            obtain ⟨y', hy', _, hv⟩ := (hc e h1).2 k x h3
            have : y' = y := by
              have e' : c[L.base + j]? = some y := by simpa using hy
              rw [h2, ← Nat.add_assoc] at e'
              rw [e'] at hy'; exact (Option.some.inj hy').symm
            subst this; exact .base hv
      · simp at h
    · simp at h
  · rename_i cs0
    split at h
    · rename_i hlen
      simp only [decide_eq_true_eq] at hlen
      simp only [Option.some.injEq] at h
      subst h
      cases hp with
      | base h0 =>
        cases h0 with
        | pp _ ad ys hs hm hv =>
          refine ⟨ad, (List.range m).map ys, rfl, by simp, fun j y hy => ?_, by simp; omega, fun j x y hx hy => ?_⟩
          · by_cases hj : j < m
            · simp [List.getElem?_range hj] at hy; subst hy
              rw [Addr.add_none hs]
              have : j < cs0.length := by omega
              exact hR.cell _ _ _ (hm j cs0[j] (by simp [this]))
            · simp [Nat.le_of_not_lt hj] at hy
          · obtain ⟨hj, hx⟩ := take_get hx
            simp [List.getElem?_range hj] at hy; subst hy
            exact .base (hv j x hx)
    · simp at h
  · simp at h

theorem loadE_ok {t : TypeId} {p x : AV} {vp : Value} (h : loadE P get t p = some x) (hp : V σ φ p vp) (hR : R κ σ φ get w) :
    ∃ v, (Instr.loadAt t vp).run P w = .ok v w ∧ V σ φ x v := by
  unfold loadE at h
  split at h
  · rename_i m a hm ha
    split at h
    · rename_i hcond
      cases hcs : cellsAt get m p with
      | none => simp [hcs] at h
      | some cs =>
        rw [hcs] at h
        simp only [Option.bind_some] at h
        obtain ⟨ad, ys, rfl, hl, hcell, hv⟩ := cellsAt_ok hcs hp hR
        have hld := run_loadCells (P := P) ys hcell
        rw [hl] at hld
        unfold Instr.loadAt loadVar
        simp only [Sem.run_bind, Instr.sureAddr, Sem.run_pure, Result.andThen_ok, run_isAgg ha]
        cases a with
        | true =>
          simp only [if_true, Sem.run_bind, run_sizeOf hm, Result.andThen_ok, hld, Sem.run_pure]
          simp only [wrapUp, Option.some.injEq] at h
          subst h
          exact ⟨_, rfl, .agg (by simpa using hv.1) fun j c y hc hy => hv.2 j c y hc (by simpa using hy)⟩
        | false =>
          simp only [Bool.false_or, beq_iff_eq] at hcond
          subst hcond
          simp only [Bool.false_eq_true, if_false]
          obtain ⟨y, rfl⟩ : ∃ y, ys = [y] := by
            match ys, hl with
            | [y], _ => exact ⟨y, rfl⟩
          have h0 := hcell 0 y rfl
          have e0 : ad.add 0 = ad := by simp [Addr.add]
          rw [e0] at h0
          simp only [wrapUp] at h
          split at h
          · rename_i c
            simp only [Option.some.injEq] at h; subst h
            exact ⟨y, by rw [run_load, h0], hv.2 0 _ y rfl rfl⟩
          · simp at h
    · simp at h
  · simp at h

theorem partE_ok {t : TypeId} {cs : List AV} {off : Nat} {x : AV} {ys : Array Value} (h : partE P t cs off = some x) (hl : cs.length = ys.size)
    (hv : ∀ (j : Nat) (c : AV) (z : Value), cs[j]? = some c → ys[j]? = some z → V σ φ c z) : ∃ v, (part t ys off).run P w = .ok v w ∧ V σ φ x v := by
  unfold partE at h
  split at h
  · rename_i m hm ha
    split at h
    · rename_i hlen
      simp only [decide_eq_true_eq] at hlen
      simp only [Option.some.injEq] at h; subst h
      unfold part
      simp only [Sem.run_bind, run_isAgg ha, run_sizeOf hm, Result.andThen_ok, if_true, Sem.run_pure]
      refine ⟨_, rfl, .agg (by simp; omega) fun j c y hc hy => ?_⟩
      obtain ⟨hj, hc⟩ := take_get hc
      have hy' : ys[off + j]? = some y := by
        rw [Array.getElem?_extract] at hy
        split at hy
        · exact hy
        · simp at hy
      exact hv (off + j) c y (by simpa using hc) hy'
    · simp at h
  · rename_i m hm ha
    unfold part
    simp only [Sem.run_bind, run_isAgg ha, Result.andThen_ok, Bool.false_eq_true, if_false]
    have hlt : off < ys.size := by
      rw [← hl]; exact (List.getElem?_eq_some_iff.1 h).1
    rw [Array.getElem?_eq_getElem hlt]
    exact ⟨ys[off], rfl, hv off x ys[off] h (by simp [hlt])⟩
  · simp at h

theorem field_ok {s : TypeId} {f : Nat} {fd : Field} {cs : List AV} {x : AV} {vx : Value} (hf : fieldOf P s f = some fd) (h : partE P fd.type cs fd.offset = some x)
    (hx : V σ φ (.agg cs) vx) : ∃ v, (Instr.field s vx f).run P w = .ok v w ∧ V σ φ x v := by
  obtain ⟨ys, rfl, hl, hv⟩ := hx.agg_inv
  unfold fieldOf at hf
  split at hf
  · rename_i fields hu
    obtain ⟨v, h1, h2⟩ := partE_ok (P := P) (w := w) h hl hv
    refine ⟨v, ?_, h2⟩
    unfold Instr.field
    simp only [Sem.run_bind, run_underlying hu, Result.andThen_ok, hf, asAgg, Sem.run_pure]
    exact h1
  · simp at hf

theorem moveP_ok {off : Nat} {p q : AV} {vp : Value} (h : moveP off p = some q) (hp : V σ φ p vp) : ∃ ad, vp = .pointer (some ad) ∧ V σ φ q (.pointer (some (ad.add off))) := by
  unfold moveP at h
  split at h
  · simp at h; subst h
    cases hp with
    | base h0 => cases h0
    | ptr hL hv => exact ⟨_, rfl, by rw [Addr.add_none rfl]; simp only [Nat.add_assoc]; exact .ptr hL hv⟩
  · simp at h; subst h
    cases hp with
    | base h0 => cases h0
    | eptr hL hv he => exact ⟨_, rfl, by rw [Addr.add_none rfl]; simp only [Nat.add_assoc]; rw [← Nat.add_assoc]; exact .eptr hL hv he⟩
  · simp at h; subst h
    cases hp with
    | base h0 =>
      cases h0 with
      | pp _ ad ys hs hm hv =>
        refine ⟨ad, rfl, .base (.pp _ _ (fun j => ys (off + j)) (by rw [Addr.add_none hs]) (fun j c hc => ?_) (fun j c hc => hv _ _ (by simpa using hc)))⟩
        rw [Addr.add_none hs]
        have := hm (off + j) c (by simpa using hc)
        rw [← Nat.add_assoc] at this
        exact this
  · simp at h


def seesRow (w : World) (b : Nat) : Prop := ∃ c T fr, w.heap[b]? = some (.cells c T fr)
end
end Go.Eng

namespace Go.Eng
open Go

section
variable {P : Program} {κ : Ctx} {σ : Store} {φ : Places} {get : Get} {w : World} {out : OpOut}

theorem mixL_get : ∀ {c : Bool} {a b : List AV} {j : Nat} {z : AV}, (mixL c a b)[j]? = some z → ∃ x y, a[j]? = some x ∧ b[j]? = some y ∧ z = mixAV c x y := by
  intro c a
  induction a with
  | nil => intro b j z h; simp [mixL] at h
  | cons x xs ih =>
    intro b j z h
    cases b with
    | nil => simp [mixL] at h
    | cons y ys =>
      simp only [mixL] at h
      cases j with
      | zero => simp at h; exact ⟨x, y, by simp, by simp, h.symm⟩
      | succ j => simpa using ih (by simpa using h)
theorem mixL_len : ∀ {c : Bool} {a b : List AV}, a.length = b.length → (mixL c a b).length = a.length := by
  intro c a
  induction a with
  | nil => intro b h; simp [mixL]
  | cons x xs ih =>
    intro b h
    cases b with
    | nil => simp at h
    | cons y ys => simp only [mixL, List.length_cons]; rw [ih (by simpa using h)]

theorem mixV_ok {c : Bool} {x y : Value} : V0 σ (mixV c x y) (bif c then x else y) := by
  unfold mixV
  split
  · split
    · rename_i e; subst e; cases c <;> exact .v _
    · exact .any _
  · cases c <;> exact .sb _
  · cases c <;> exact .v _
  all_goals cases c <;> first | exact .v _ | exact .any _

theorem zsl_len (sz : Nat) : (zsl sz).length = sz := List.length_replicate ..
theorem mkd_zsl (sz : Nat) : mkd (zsl sz) = false := by cases sz <;> rfl
theorem V0_zsl (sz : Nat) : V0 σ (.sl sz 0 fun _ => zsl sz) (.slice none 0 0) := .slnil sz 0 _ none 0 (fun _ => zsl_len sz) rfl fun _ => mkd_zsl sz
theorem mix_true {x : AV} {v : Value} (h : V σ φ x v) : ∀ (x' : AV), V σ φ (mixAV true x x') v := by
  induction h with
  | @base x v h =>
    intro x'
    cases h with
    | any => simp only [mixAV]; exact V_any _
    | v x =>
      cases x' <;> simp only [mixAV] <;> try exact V_any _
      · exact .base (by simpa using mixV_ok (σ := σ) (c := true))
      · split
        · exact V_sb _
        · exact V_any _
      · split
        · exact .base (V0_zsl _)
        · exact V_any _
    | sb b =>
      cases x' <;> simp only [mixAV] <;> try exact V_any _
      all_goals first
        | exact V_sb _
        | (split <;> first | exact V_sb _ | exact V_any _)
    | sl sz n f ad cap ys hs hn hl hm ho hv =>
      cases x' <;> simp only [mixAV] <;> try exact V_any _
      all_goals (repeat' split) <;> first | exact V_any _ | exact .base (.sl sz n f ad cap ys hs hn hl hm ho hv)
    | slnil sz n f A cap hl hn ha =>
      cases x' <;> simp only [mixAV] <;> try exact V_any _
      all_goals (repeat' split) <;> first | exact V_any _ | exact .base (.slnil sz n f A cap hl hn ha)
    | pp => simp only [mixAV]; exact V_any _
    | pa => simp only [mixAV]; exact V_any _
  | @agg cs ys hl _ ih =>
    intro x'
    cases x' <;> simp only [mixAV] <;> try exact V_any _
    split
    · rename_i e
      refine .agg (by rw [mixL_len e]; exact hl) fun j c y hc hy => ?_
      obtain ⟨a, b, ha, hb, rfl⟩ := mixL_get hc
      exact ih j a y ha hy b
    · exact V_any _
  | @tup cs ys hl _ ih =>
    intro x'
    cases x' <;> simp only [mixAV] <;> try exact V_any _
    split
    · rename_i e
      refine .tup (by rw [mixL_len e]; exact hl) fun j c y hc hy => ?_
      obtain ⟨a, b, ha, hb, rfl⟩ := mixL_get hc
      exact ih j a y ha hy b
    · exact V_any _
  | ptr h hr =>
    intro x'
    cases x' <;> simp only [mixAV] <;> try exact V_any _
    split
    · exact .ptr h hr
    · exact V_any _
  | map h hr =>
    intro x'
    cases x' <;> simp only [mixAV] <;> try exact V_any _
    split
    · exact .map h hr
    · exact V_any _
  | hs h hr hn he hx hc =>
    intro x'
    cases x' <;> simp only [mixAV] <;> try exact V_any _
    split
    · exact .hs h hr hn he hx hc
    · exact V_any _
  | hsnil A h he hn =>
    intro x'
    cases x' <;> simp only [mixAV] <;> try exact V_any _
    split
    · exact .hsnil A h he hn
    · exact V_any _
  | ap | eptr | fn | its => intro x'; simp only [mixAV]; exact V_any _

theorem mix_false {x' : AV} {v : Value} (h : V σ φ x' v) : ∀ (x : AV), V σ φ (mixAV false x x') v := by
  induction h with
  | @base x' v h =>
    intro x
    cases h with
    | any => cases x <;> simp only [mixAV] <;> exact V_any _
    | v y =>
      cases x <;> simp only [mixAV] <;> try exact V_any _
      · exact .base (by simpa using mixV_ok (σ := σ) (c := false))
      · split <;> rename_i e
        · cases e
        · cases e; exact V_sb _
        · exact V_any _
      · split <;> rename_i e
        · cases e
        · cases e; exact .base (V0_zsl _)
        · exact V_any _
    | sb b =>
      cases x <;> simp only [mixAV] <;> try exact V_any _
      · split <;> rename_i e
        · exact V_sb _
        · exact V_any _
      · exact V_sb _
    | sl sz n f ad cap ys hs hn hl hm ho hv =>
      cases x <;> simp only [mixAV] <;> try exact V_any _
      · split
        · exact .base (.sl sz n f ad cap ys hs hn hl hm ho hv)
        · exact V_any _
      · split
        · rename_i e; subst e; exact .base (.sl _ n f ad cap ys hs hn hl hm ho hv)
        · exact V_any _
    | slnil sz n f A cap hl hn ha =>
      cases x <;> simp only [mixAV] <;> try exact V_any _
      · split
        · exact .base (.slnil sz n f A cap hl hn ha)
        · exact V_any _
      · split
        · rename_i e; subst e; exact .base (.slnil _ n f A cap hl hn ha)
        · exact V_any _
    | pp => cases x <;> simp only [mixAV] <;> exact V_any _
    | pa => cases x <;> simp only [mixAV] <;> exact V_any _
  | @agg cs ys hl _ ih =>
    intro x
    cases x <;> simp only [mixAV] <;> try exact V_any _
    split
    · rename_i e
      refine .agg (by rw [mixL_len e, e]; exact hl) fun j c y hc hy => ?_
      obtain ⟨a, b, ha, hb, rfl⟩ := mixL_get hc
      exact ih j b y hb hy a
    · exact V_any _
  | @tup cs ys hl _ ih =>
    intro x
    cases x <;> simp only [mixAV] <;> try exact V_any _
    split
    · rename_i e
      refine .tup (by rw [mixL_len e, e]; exact hl) fun j c y hc hy => ?_
      obtain ⟨a, b, ha, hb, rfl⟩ := mixL_get hc
      exact ih j b y hb hy a
    · exact V_any _
  | ptr h hr =>
    intro x
    cases x <;> simp only [mixAV] <;> try exact V_any _
    split
    · rename_i e; rw [e.1, e.2]; exact .ptr h hr
    · exact V_any _
  | map h hr =>
    intro x
    cases x <;> simp only [mixAV] <;> try exact V_any _
    split
    · rename_i e; rw [e]; exact .map h hr
    · exact V_any _
  | hs h hr hn he hx hc =>
    intro x
    cases x <;> simp only [mixAV] <;> try exact V_any _
    split
    · rename_i e; rw [e]; exact .hs h hr hn he hx hc
    · exact V_any _
  | hsnil A h he hn =>
    intro x
    cases x <;> simp only [mixAV] <;> try exact V_any _
    split
    · rename_i e; rw [e]; exact .hsnil A h he hn
    · exact V_any _
  | ap | eptr | fn | its => intro x; cases x <;> simp only [mixAV] <;> exact V_any _

theorem mix_ok {c : Bool} {x x' : AV} {v : Value} (h : V σ φ (bif c then x else x') v) : V σ φ (mixAV c x x') v := by
  cases c
  · exact mix_false h x
  · exact mix_true h x'
theorem mixV_free {c : Bool} {x y : Value} : (mixV c x y).free = true := by
  unfold mixV
  split <;> try rfl
  split <;> rfl
theorem mix_free {c : Bool} {x x' : AV} (h : (bif c then x else x').free = true) : (mixAV c x x').free = true := by
  cases x <;> cases x' <;> simp only [mixAV] <;> try rfl
  all_goals first
    | exact mixV_free
    | (split <;> rfl)
    | ((repeat' split) <;> rfl)
    | (cases c <;> simp [AV.free] at h)
theorem mix_ok0 {c : Bool} {x x' : AV} {v : Value} (h : V0 σ (bif c then x else x') v) : V0 σ (mixAV c x x') v := by
  have hf : (bif c then x else x').free = true := by
    cases hx : (bif c then x else x') <;> rw [hx] at h <;> cases h <;> rfl
  exact (mix_ok (φ := fun _ => none) (.base h)).free (mix_free hf)

theorem V0.free {x : AV} {v : Value} (h : V0 σ x v) : x.free = true := by cases h <;> rfl

theorem chain_len : ∀ (xs : List (List AV)) {z : List AV} {i k : Nat} {sz : Nat}, (∀ x ∈ xs, x.length = sz) → z.length = sz → (chain z i xs k).length = sz := by
  intro xs
  induction xs with
  | nil => intro z i k sz _ hz; simpa [chain] using hz
  | cons x xs ih =>
    intro z i k sz hxs hz
    simp only [chain]
    have h1 := hxs x (by simp)
    rw [mixL_len (by rw [h1, ih (fun y hy => hxs y (by simp [hy])) hz]), h1]
theorem chain_ok : ∀ {xs : List (List AV)} {z : List AV} {i k : Nat} {sz : Nat} {l : List AV}, (∀ x ∈ xs, x.length = sz) → z.length = sz → i ≤ k → xs[k - i]? = some l →
    (chain z i xs k).length = sz ∧ ∀ (j : Nat) (c : AV), (chain z i xs k)[j]? = some c → ∃ d, l[j]? = some d ∧ ∀ v, (V0 σ d v → V0 σ c v) ∧ (V σ φ d v → V σ φ c v) := by
  intro xs
  induction xs with
  | nil => intro z i k sz l _ _ _ h; simp at h
  | cons x xs ih =>
    intro z i k sz l hxs hz hik h
    refine ⟨chain_len _ hxs hz, fun j c hc => ?_⟩
    simp only [chain] at hc
    obtain ⟨a, b, ha, hb, rfl⟩ := mixL_get hc
    by_cases e : k = i
    · subst e
      simp at h; subst h
      refine ⟨a, ha, fun v => ⟨fun hv => mix_ok0 ?_, fun hv => mix_ok ?_⟩⟩ <;> simpa using hv
    · have hne : Nat.beq k i = false := by cases hb : Nat.beq k i with
        | false => rfl
        | true => exact absurd (Nat.eq_of_beq_eq_true hb) e
      have h' : xs[k - (i + 1)]? = some l := by
        rw [show k - i = (k - (i + 1)) + 1 by omega] at h; simpa using h
      obtain ⟨_, h2⟩ := ih (fun y hy => hxs y (by simp [hy])) hz (by omega) h'
      obtain ⟨d, hd, hv⟩ := h2 j b hb
      refine ⟨d, hd, fun v => ⟨fun h => mix_ok0 ?_, fun h => mix_ok ?_⟩⟩ <;> rw [hne]
      · exact (hv v).1 h
      · exact (hv v).2 h
theorem chunks_get : ∀ {n : Nat} {cs : List AV} {sz e : Nat}, e < n → (chunks sz n cs)[e]? = some ((cs.drop (e * sz)).take sz) := by
  intro n
  induction n with
  | zero => intro cs sz e h; omega
  | succ n ih =>
    intro cs sz e h
    cases e with
    | zero => simp [chunks]
    | succ e =>
      simp only [chunks, List.getElem?_cons_succ]
      rw [ih (by omega), List.drop_drop, Nat.succ_mul]
      congr 3; omega
theorem chunks_len : ∀ {n : Nat} {cs : List AV} {sz : Nat}, cs.length = n * sz → ∀ x ∈ chunks sz n cs, x.length = sz := by
  intro n
  induction n with
  | zero => intro cs sz _ x hx; simp [chunks] at hx
  | succ n ih =>
    intro cs sz h x hx
    rw [Nat.succ_mul] at h
    simp only [chunks, List.mem_cons] at hx
    rcases hx with rfl | hx
    · simp; omega
    · exact ih (by simp; omega) x hx
theorem chain_chunks {cs : List AV} {n sz : Nat} {z : List AV} (hz : z.length = sz) (hl : cs.length = n * sz) {e : Nat} (he : e < n) :
    (chain z 0 (chunks sz n cs) e).length = sz ∧ ∀ (j : Nat) (c : AV), (chain z 0 (chunks sz n cs) e)[j]? = some c →
      ∃ d, cs[e * sz + j]? = some d ∧ ∀ v, (V0 σ d v → V0 σ c v) ∧ (V σ φ d v → V σ φ c v) := by
  obtain ⟨h1, h2⟩ := chain_ok (σ := σ) (φ := φ) (k := e) (chunks_len hl) hz (Nat.zero_le _) (by simpa using chunks_get (cs := cs) (sz := sz) he)
  refine ⟨h1, fun j c hc => ?_⟩
  obtain ⟨d, hd, hv⟩ := h2 j c hc
  obtain ⟨_, hd⟩ := take_get hd
  exact ⟨d, by simpa using hd, hv⟩
end
end Go.Eng

namespace Go.Eng
open Go

section
variable {P : Program} {κ : Ctx} {σ : Store} {φ : Places} {get : Get} {w : World} {out : OpOut}

theorem two_true {a b : Bool} (h : (a && b) = true) : a = true ∧ b = true := by simpa using h

theorem indexAddr_ok {t : TypeId} {x ix : AV} {vx vi : Value} (h : (indexAddrE P get t x ix).get = some out) (hx : V σ φ x vx) (hi : V σ φ ix vi) (hR : R κ σ φ get w) :
    Pur P σ φ w (Instr.indexAt t vx vi) out := by
  unfold indexAddrE at h
  split at h
  · rename_i k i
    cases hi.v_eq
    split at h
    · rename_i elem he
      have hu := elemOfT_some he
      split at h
      · rename_i sz n f
        split at h
        · rename_i hsz
          obtain ⟨hc, h⟩ := get_chk h
          obtain rfl := get_one h
          obtain ⟨h0, h1⟩ := two_true hc
          simp only [decide_eq_true_eq] at h0 h1
          cases hx with
          | base hx =>
            cases hx with
            | sl _ _ _ ad cap ys hs hn hl hm ho hv =>
              have hlt : i.toNat < n := by omega
              refine ⟨.pointer (some (ad.add (i.toNat * sz))), ?_, ?_, rfl, rfl⟩
              · simp [Instr.indexAt, asIntOf, run_underlying hu, run_sizeOf hsz, h0, h1]
              · refine .base (.pp _ _ (ys i.toNat) (by rw [Addr.add_none hs]) (fun j c hc => ?_) (fun j c hc => hv _ _ _ hlt hc))
                rw [Addr.add_none hs]
                exact hm _ _ _ hlt hc
            | slnil _ _ _ A cap hl hn ha => exfalso; omega
        · simp [Tree.get] at h
      · rename_i id e n
        split at h
        · rename_i sz N f hg
          split at h
          · rename_i hsz
            obtain ⟨hc, h⟩ := get_chk h
            obtain rfl := get_one h
            obtain ⟨h0, h1⟩ := two_true hc
            simp only [decide_eq_true_eq] at h0 h1
            have hlt : i.toNat < n := by omega
            cases hx with
            | base hx => cases hx
            | @hs _ _ _ cap L hL hr hn he hxx hcc =>
              obtain ⟨e1, e2, _⟩ := hR.obj id _ L hg hL hr
              refine ⟨.pointer (some ((⟨L.b, L.base + e * L.sz, none⟩ : Addr).add (i.toNat * sz))), ?_, ?_, rfl, rfl⟩
              · simp [Instr.indexAt, asIntOf, run_underlying hu, run_sizeOf hsz, h0, h1]
              · rw [Addr.add_none rfl]
                have : L.base + e * L.sz + i.toNat * sz = L.base + (e + i.toNat) * L.sz + 0 := by rw [e1, Nat.add_mul]; omega
                rw [this]
                exact .eptr hL hr (by omega)
            | hsnil A _ _ hn => exfalso; omega
          · simp [Tree.get] at h
        · simp [Tree.get] at h
      · simp [Tree.get] at h
    · split at h
      · rename_i len elem ha
        have hu := arrOfT_some ha
        split at h
        · rename_i sz' hsz
          split at h
          · rename_i id
            split at h
            · rename_i sz n f hg
              split at h
              · rename_i hcond
                obtain ⟨rfl, rfl⟩ := hcond
                obtain ⟨hc, h⟩ := get_chk h
                obtain rfl := get_one h
                obtain ⟨h0, h1⟩ := two_true hc
                simp only [decide_eq_true_eq] at h0 h1
                cases hx with
                | base hx => cases hx
                | @ap _ L hL hr =>
                  obtain ⟨e1, e2, _⟩ := hR.obj id _ L hg hL hr
                  refine ⟨.pointer (some ((⟨L.b, L.base, none⟩ : Addr).add (i.toNat * sz))), ?_, ?_, rfl, rfl⟩
                  · simp [Instr.indexAt, asIntOf, run_underlying hu, run_sizeOf hsz, h0, h1, Instr.sureAddr]
                  · rw [Addr.add_none rfl]
                    have : L.base + i.toNat * sz = L.base + i.toNat * L.sz + 0 := by rw [e1]; omega
                    rw [this]
                    exact .eptr hL hr (by omega)
              · simp [Tree.get] at h
            · simp [Tree.get] at h
          · rename_i sz n f
            split at h
            · rename_i hcond
              obtain ⟨rfl, rfl⟩ := hcond
              obtain ⟨hc, h⟩ := get_chk h
              obtain rfl := get_one h
              obtain ⟨h0, h1⟩ := two_true hc
              simp only [decide_eq_true_eq] at h0 h1
              have hlt : i.toNat < n := by omega
              cases hx with
              | base hx =>
                cases hx with
                | pa _ _ _ ad ys hs hl hm hv =>
                  refine ⟨.pointer (some (ad.add (i.toNat * sz))), ?_, ?_, rfl, rfl⟩
                  · simp [Instr.indexAt, asIntOf, run_underlying hu, run_sizeOf hsz, h0, h1, Instr.sureAddr]
                  · refine .base (.pp _ _ (ys i.toNat) (by rw [Addr.add_none hs]) (fun j c hc => ?_) (fun j c hc => hv _ _ _ hlt hc))
                    rw [Addr.add_none hs]
                    exact hm _ _ _ hlt hc
            · simp [Tree.get] at h
          · rename_i id o
            obtain ⟨hc, h⟩ := get_chk h
            obtain rfl := get_one h
            obtain ⟨h0, h1⟩ := two_true hc
            simp only [decide_eq_true_eq] at h0 h1
            obtain ⟨ad, rfl, hq⟩ := moveP_ok (off := i.toNat * sz') (q := .ptr id (o + i.toNat * sz')) rfl hx
            refine ⟨_, ?_, hq, rfl, rfl⟩
            simp [Instr.indexAt, asIntOf, run_underlying hu, run_sizeOf hsz, h0, h1, Instr.sureAddr]
          · rename_i cs
            obtain ⟨hc, h⟩ := get_chk h
            obtain rfl := get_one h
            obtain ⟨h0, h1⟩ := two_true hc
            simp only [decide_eq_true_eq] at h0 h1
            obtain ⟨ad, rfl, hq⟩ := moveP_ok (off := i.toNat * sz') (q := .pp (cs.drop (i.toNat * sz'))) rfl hx
            refine ⟨_, ?_, hq, rfl, rfl⟩
            simp [Instr.indexAt, asIntOf, run_underlying hu, run_sizeOf hsz, h0, h1, Instr.sureAddr]
          · simp [Tree.get] at h
        · simp [Tree.get] at h
      · simp [Tree.get] at h
  · simp [Tree.get] at h

theorem index_ok {t : TypeId} {x ix : AV} {vx vi : Value} (h : (indexE P t x ix).get = some out) (hx : V σ φ x vx) (hi : V σ φ ix vi) :
    Pur P σ φ w (Instr.index t vx vi) out := by
  unfold indexE at h
  split at h
  · rename_i k i
    cases hi.v_eq
    split at h
    · rename_i s
      cases hx.v_eq
      split at h
      · rename_i hu
        obtain ⟨hc, h⟩ := get_chk h
        obtain rfl := get_one h
        obtain ⟨h0, h1⟩ := two_true hc
        simp only [decide_eq_true_eq] at h0 h1
        refine ⟨.int .u8 (sbyte s i.toNat), ?_, V_v _, rfl, rfl⟩
        have hlt : i.toNat < s.size := by omega
        have hlt' : i.toNat < s.data.size := hlt
        have hb : s[i.toNat]? = some (s.data[i.toNat]) := by
          rw [getElem?_pos s i.toNat hlt]; rfl
        unfold Instr.index
        simp only [Sem.run_bind, asIntOf, Sem.run_pure, Result.andThen_ok, run_underlying hu, h0, if_true, hb]
        simp only [sbyte]
        rw [Array.getElem?_eq_getElem hlt']; rfl
      · simp [Tree.get] at h
    · rename_i cs
      split at h
      · rename_i len elem ha
        have hu := arrOfT_some ha
        split at h
        · rename_i sz a hsz hag
          split at h
          · rename_i hl
            obtain ⟨hc, h⟩ := get_chk h
            obtain ⟨h0, h1⟩ := two_true hc
            simp only [decide_eq_true_eq] at h0 h1
            obtain ⟨x', hx', rfl⟩ := get_mapOf h
            obtain ⟨ys, rfl, hly, hv⟩ := hx.agg_inv
            have hlt : i.toNat < len := by omega
            have hz : (cs.take sz).length = sz := by
              rw [List.length_take, ← hl]
              have : 1 * sz ≤ len * sz := Nat.mul_le_mul_right _ (by omega)
              omega
            obtain ⟨hcl, hcc⟩ := chain_chunks (σ := σ) (φ := φ) hz hl.symm hlt
            have hbd : i.toNat * sz + sz ≤ ys.size := by
              rw [← hly, ← hl]
              have : (i.toNat + 1) * sz ≤ len * sz := Nat.mul_le_mul_right _ hlt
              rw [Nat.succ_mul] at this; exact this
            have hpart : ∀ v, (part elem ys (i.toNat * sz)).run P w = .ok v w → (Instr.index t (.agg ys) (.int k i)).run P w = .ok v w := by
              intro v hv
              simp [Instr.index, asIntOf, run_underlying hu, h0, h1, run_sizeOf hsz, hv]
            cases a with
            | true =>
              simp only [wrapUp, Option.some.injEq] at hx'
              subst hx'
              refine ⟨.agg (ys.extract (i.toNat * sz) (i.toNat * sz + sz)), hpart _ (by simp only [part, Sem.run_bind, run_isAgg hag, Result.andThen_ok, if_true, run_sizeOf hsz, Sem.run_pure]), .agg (by rw [hcl]; simp; omega) fun j c y hc hy => ?_, rfl, rfl⟩
              obtain ⟨d, hd, hdv⟩ := hcc j c hc
              rw [Array.getElem?_extract] at hy
              split at hy
              · exact (hdv y).2 (hv _ _ _ hd hy)
              · simp at hy
            | false =>
              simp only [wrapUp] at hx'
              split at hx'
              · rename_i c0 hch
                simp only [Option.some.injEq] at hx'
                subst hx'
                have hsz1 : sz = 1 := by rw [← hcl, hch]; rfl
                obtain ⟨d, hd, hdv⟩ := hcc 0 c0 (by rw [hch]; rfl)
                have hlt2 : i.toNat * sz < ys.size := by omega
                refine ⟨ys[i.toNat * sz], hpart _ ?_, (hdv _).2 (hv _ _ _ hd (by simp [hlt2])), rfl, rfl⟩
                simp only [part, Sem.run_bind, run_isAgg hag, Result.andThen_ok, Bool.false_eq_true, if_false]
                rw [Array.getElem?_eq_getElem hlt2]; rfl
              · simp at hx'
          · simp [Tree.get] at h
        · simp [Tree.get] at h
      · simp [Tree.get] at h
    · simp [Tree.get] at h
  · simp [Tree.get] at h

theorem extract_ok {vs : List AV} {i : Nat} {x : AV} {v : Value} (h : vs[i]? = some x) (hv : V σ φ (.tup vs) v) : ∃ u, (Instr.extract v i).run P w = .ok u w ∧ V σ φ x u := by
  obtain ⟨ys, rfl, hl, hp⟩ := hv.tup_inv
  have hlt : i < ys.size := by rw [← hl]; exact (List.getElem?_eq_some_iff.1 h).1
  refine ⟨ys[i], ?_, hp i x ys[i] h (by simp [hlt])⟩
  simp [Instr.extract, hlt]

theorem min_ok : ∀ {xs : List AV} {x a : AV} {v : Value} {vs : List Value}, minE x xs = some a → V σ φ x v → VL σ φ xs vs →
    ∃ u, (vs.foldlM Builtin.min2 v).run P w = .ok u w ∧ V σ φ a u := by
  intro xs
  induction xs with
  | nil =>
    intro x a v vs h hx hl
    have : vs = [] := List.eq_nil_of_length_eq_zero hl.1.symm
    subst this
    unfold minE at h
    split at h
    · simp at h; subst h; exact ⟨v, rfl, hx⟩
    · simp at h
  | cons y ys ih =>
    intro x a v vs h hx hl
    cases vs with
    | nil => have := hl.1; simp at this
    | cons vy vs =>
      have hy : V σ φ y vy := hl.2 0 y vy rfl rfl
      have hl' : VL σ φ ys vs := ⟨by have := hl.1; simpa using this, fun j c z hc hz => hl.2 (j + 1) c z (by simpa using hc) (by simpa using hz)⟩
      unfold minE at h
      split at h
      · cases hx.v_eq; cases hy.v_eq
        obtain ⟨u, hu, hv⟩ := ih h (V_v _) hl'
        refine ⟨u, ?_, hv⟩
        simp only [List.foldlM_cons, Sem.run_bind, Builtin.min2, Sem.run_pure, Result.andThen_ok]
        exact hu
      · simp at h
theorem max_ok : ∀ {xs : List AV} {x a : AV} {v : Value} {vs : List Value}, maxE x xs = some a → V σ φ x v → VL σ φ xs vs →
    ∃ u, (vs.foldlM Builtin.max2 v).run P w = .ok u w ∧ V σ φ a u := by
  intro xs
  induction xs with
  | nil =>
    intro x a v vs h hx hl
    have : vs = [] := List.eq_nil_of_length_eq_zero hl.1.symm
    subst this
    unfold maxE at h
    split at h
    · simp at h; subst h; exact ⟨v, rfl, hx⟩
    · simp at h
  | cons y ys ih =>
    intro x a v vs h hx hl
    cases vs with
    | nil => have := hl.1; simp at this
    | cons vy vs =>
      have hy : V σ φ y vy := hl.2 0 y vy rfl rfl
      have hl' : VL σ φ ys vs := ⟨by have := hl.1; simpa using this, fun j c z hc hz => hl.2 (j + 1) c z (by simpa using hc) (by simpa using hz)⟩
      unfold maxE at h
      split at h
      · cases hx.v_eq; cases hy.v_eq
        obtain ⟨u, hu, hv⟩ := ih h (V_v _) hl'
        refine ⟨u, ?_, hv⟩
        simp only [List.foldlM_cons, Sem.run_bind, Builtin.max2, Sem.run_pure, Result.andThen_ok]
        exact hu
      · simp at h

theorem len_ok {ts : Array TypeId} {t : TypeId} {x : AV} {v : Value} (h : (lenE P get ts x).get = some out) (hx : V σ φ x v) (hR : R κ σ φ get w) :
    Pur P σ φ w (Builtin.len_ ts t #[v]) out := by
  unfold lenE at h
  split at h
  · rename_i tt htt
    have e : ∀ d, P.underlying tt = some d → ∀ u : Value, (match d, v with
        | .string, .string s => (pure (goInt s.size) : Sem Value)
        | .array n _, _ => pure (goInt n)
        | .slice _, .slice _ n _ => pure (goInt n)
        | .map _ _, .map none => pure (goInt 0)
        | _, _ => stuck "").run P w = .ok u w → (Builtin.len_ ts t #[v]).run P w = .ok u w := by
      intro d hu u hr
      unfold Builtin.len_
      simp only [htt, show (#[v] : Array Value)[0]? = some v from rfl, Sem.run_bind, run_underlying hu, Result.andThen_ok]
      cases d <;> cases v <;> simp_all
      all_goals (rename_i a; cases a <;> simp_all)
    split at h
    · rename_i hu; obtain rfl := get_one h; cases hx.v_eq
      exact ⟨_, e _ hu _ rfl, V_v _, rfl, rfl⟩
    · rename_i n el hu; obtain rfl := get_one h
      exact ⟨_, e _ hu (goInt n) (by cases v <;> rfl), V_v _, rfl, rfl⟩
    · rename_i hu; obtain rfl := get_one h; cases hx.v_eq
      exact ⟨_, e _ hu _ rfl, V_v _, rfl, rfl⟩
    · rename_i sz n f hu; obtain rfl := get_one h
      cases hx with
      | base hx =>
        cases hx with
        | sl => exact ⟨_, e _ hu _ rfl, V_v _, rfl, rfl⟩
        | slnil _ _ _ A cap hl hn ha => exact ⟨_, e _ hu _ rfl, V_v _, rfl, rfl⟩
    · rename_i i el n hu; obtain rfl := get_one h
      cases hx with
      | base hx => cases hx
      | hs => exact ⟨_, e _ hu _ rfl, V_v _, rfl, rfl⟩
      | hsnil A _ _ hn => subst hn; exact ⟨_, e _ hu _ rfl, V_v _, rfl, rfl⟩
    · rename_i hu; obtain rfl := get_one h; cases hx.v_eq
      exact ⟨_, e _ hu _ rfl, V_v _, rfl, rfl⟩
    · rename_i i hu
      split at h
      · rename_i key n has val hg
        obtain rfl := get_one h
        cases hx with
        | base hx => cases hx
        | @map _ L hL hr =>
          obtain ⟨es, clock, hh, hn, _⟩ := hR.obj i _ L hg hL hr
          refine ⟨_, ?_, V_v (.int .i64 (n : Int)), rfl, rfl⟩
          have hgo : (getObj L.b).run P w = .ok (.map es clock) w := by simp [getObj, Sem.run, hh]
          unfold Builtin.len_
          simp [htt, run_underlying hu, hgo, hn, goInt]
      · simp [Tree.get] at h
    · simp [Tree.get] at h
  · simp [Tree.get] at h

theorem bound_run {d : Nat} {x : AV} {v : Value} {i : Int} (h : bound d (some x) = some i) (hx : V σ φ x v) : ∃ k, v = .int k i := by
  unfold bound at h
  split at h
  · rename_i e; cases e
  · rename_i e; cases e; simp at h; subst h; exact ⟨_, hx.v_eq⟩
  · simp at h
theorem run_sliceBound {v : Value} {k : IntKind} {i : Int} {y : Nat} {code : BoundsCode} (hv : v = .int k i) (h0 : 0 ≤ i) (h1 : i ≤ y) : (Instr.sliceBound v y code).run P w = .ok i.toNat w := by
  subst hv
  simp [Instr.sliceBound, asIntOf, h0, h1]
def VO (σ : Store) (φ : Places) : Option AV → Option Value → Prop
  | none, none => True
  | some x, some v => V σ φ x v
  | _, _ => False
theorem run_sliceBounds {isSlice : Bool} {len cap : Nat} {lo hi : Option AV} {vl vh : Option Value} {l h : Int} (hl : bound 0 lo = some l) (hh : bound len hi = some h)
    (vl_ok : VO σ φ lo vl) (vh_ok : VO σ φ hi vh) (h0 : 0 ≤ l) (h1 : l ≤ h) (h2 : h ≤ cap) :
    (Instr.sliceBounds isSlice len cap vl vh none).run P w = .ok (l.toNat, h.toNat, cap) w := by
  cases hi with
  | none =>
    cases vh with
    | some _ => exact vh_ok.elim
    | none =>
      simp [bound] at hh; subst hh
      cases lo with
      | none =>
        cases vl with
        | some _ => exact vl_ok.elim
        | none => simp [bound] at hl; subst hl; simp [Instr.sliceBounds]
      | some x =>
        cases vl with
        | none => exact vl_ok.elim
        | some v =>
          obtain ⟨k, hv⟩ := bound_run hl vl_ok
          have := run_sliceBound (P := P) (w := w) (code := .sliceB) hv h0 h1
          simp [Instr.sliceBounds, this]
  | some y =>
    cases vh with
    | none => exact vh_ok.elim
    | some u =>
      obtain ⟨k', hu⟩ := bound_run hh vh_ok
      have hr := fun code => run_sliceBound (P := P) (w := w) (code := code) (y := cap) hu (by omega : 0 ≤ h) h2
      cases lo with
      | none =>
        cases vl with
        | some _ => exact vl_ok.elim
        | none => simp [bound] at hl; subst hl; simp [Instr.sliceBounds, hr]
      | some x =>
        cases vl with
        | none => exact vl_ok.elim
        | some v =>
          obtain ⟨k, hv⟩ := bound_run hl vl_ok
          have := run_sliceBound (P := P) (w := w) (code := .sliceB) (y := h.toNat) hv h0 (by omega)
          simp [Instr.sliceBounds, this, hr]
end
end Go.Eng

namespace Go.Eng
open Go

def updGs (get : Get) : List (Nat × Option Blk) → Get
  | [] => get
  | (i, b) :: us => updGs (updG get i b) us
def newGs (get : Get) (nb : Nat) : List Blk → Get
  | [] => get
  | b :: bs => newGs (updG get nb (some b)) (nb + 1) bs

def Eff (P : Program) (κ : Ctx) (σ : Store) (φ : Places) (nb : Nat) (get : Get) (w : World) (s : Sem Value) (out : OpOut) : Prop :=
  ∃ v w' φ', s.run P w = .ok v w' ∧ φ.le φ' ∧ (∀ k, φ k = none → (k < nb ∨ nb + out.new.length ≤ k) → φ' k = none) ∧ V σ φ' out.val v ∧
    R κ σ φ' (newGs (updGs get out.upd) nb out.new) w'

section
variable {P : Program} {κ : Ctx} {σ : Store} {φ : Places} {get : Get} {w : World} {out : OpOut} {nb : Nat}

theorem Pur.eff {s : Sem Value} (h : Pur P σ φ w s out) (hR : R κ σ φ get w) : Eff P κ σ φ nb get w s out := by
  obtain ⟨v, hr, hv, h1, h2⟩ := h
  refine ⟨v, w, φ, hr, Places.le_refl φ, fun k hk _ => hk, hv, ?_⟩
  rw [h1, h2]; exact hR

theorem R.virtual (h : R κ σ φ get w) (hn : φ nb = none) {L : Lc} (hv : L.virt = true) (b : Option Blk) (hwf : ∀ b', b = some b' → blkWf b') (hlen : ∀ sz n f, b = some (.arr sz n f) → n = L.n) :
    R κ σ (fun k => if k = nb then some L else φ k) (updG get nb b) w := by
  have hle : φ.le (fun k => if k = nb then some L else φ k) := fun i L' hi => by
    by_cases e : i = nb
    · subst e; rw [hn] at hi; simp at hi
    · simp [e, hi]
  have old : ∀ {j K}, (if j = nb then some L else φ j) = some K → K.virt = false → j ≠ nb ∧ φ j = some K := fun {j K} hj hk => by
    by_cases e : j = nb
    · simp [e] at hj; subst hj; rw [hv] at hk; simp at hk
    · exact ⟨e, by simpa [e] using hj⟩
  refine ⟨h.cell, fun j K hj hk hg o => ?_, fun j blk K hj hp hk => ?_, fun i j Li Lj hne hi hj pi pj vi vj => ?_, fun j K hj hk => ?_, h.tape, h.os, h.output, h.grow, h.old, h.store, fun j K hj hk => ?_, h.base, fun j b' hj => ?_, fun j K sz n f hj hp => ?_⟩
  · obtain ⟨e, hj⟩ := old hj hk
    exact h.apart j K hj hk (by simpa [updG, e] using hg) o
  · obtain ⟨e, hp⟩ := old hp hk
    exact blkAt_mono (Store.le_refl σ) hle rfl (h.obj j blk K (by simpa [updG, e] using hj) hp hk)
  · obtain ⟨ei, pi⟩ := old pi vi
    obtain ⟨ej, pj⟩ := old pj vj
    exact h.dis i j Li Lj hne (by simpa [updG, ei] using hi) (by simpa [updG, ej] using hj) pi pj vi vj
  · obtain ⟨_, hj⟩ := old hj hk
    exact h.lt j K hj hk
  · obtain ⟨_, hj⟩ := old hj hk
    exact h.mine j K hj hk
  · by_cases e : j = nb
    · exact hwf b' (by simpa [updG, e] using hj)
    · exact h.wf j b' (by simpa [updG, e] using hj)
  · by_cases e : j = nb
    · subst e; simp at hp; subst hp; exact hlen sz n f (by simpa [updG] using hj)
    · simp [e] at hp; exact h.len j K sz n f (by simpa [updG, e] using hj) hp

theorem R.move (h : R κ σ φ get w) {i : Nat} {L L' : Lc} {blk : Blk} (hi : φ i = some L) (hr : L.virt = false) (hg : (get i).isSome) (hn : φ nb = none) (hb : L'.b = L.b)
    (hblk : ∀ φ' : Places, φ.le φ' → blkAt σ φ' w L' blk) (hwf : blkWf blk) (hlen : ∀ sz n f, blk = .arr sz n f → n = L'.n) : R κ σ (fun k => if k = nb then some L' else φ k) (updG (updG get i none) nb (some blk)) w := by
  have hne : i ≠ nb := fun e => by subst e; rw [hn] at hi; simp at hi
  have hle : φ.le (fun k => if k = nb then some L' else φ k) := fun j K hj => by
    by_cases e : j = nb
    · subst e; rw [hn] at hj; simp at hj
    · simp [e, hj]
  have hold : ∀ j, j ≠ nb → ((updG (updG get i none) nb (some blk)) j).isSome → j ≠ i ∧ (get j).isSome := fun j e hj => by
    simp only [updG, e, if_false] at hj
    by_cases e2 : j = i
    · simp [e2] at hj
    · exact ⟨e2, by simpa [e2] using hj⟩
  refine ⟨h.cell, fun j K hj hv hgj o => ?_, fun j b K hj hp hv => ?_, fun j k Lj Lk hjk hj hk pj pk vj vk => ?_, fun j K hj hv => ?_, h.tape, h.os, h.output, h.grow, h.old, h.store, fun j K hj hv => ?_, h.base, fun j b hj => ?_, fun j K sz n f hj hp => ?_⟩
  · by_cases e : j = nb
    · subst e; simp at hj; subst hj; rw [hb]; exact h.apart i L hi hr hg o
    · simp [e] at hj; exact h.apart j K hj hv (hold j e hgj).2 o
  · by_cases e : j = nb
    · subst e; simp at hp; subst hp
      have : b = blk := by simpa [updG] using hj.symm
      subst this; exact hblk _ hle
    · simp [e] at hp
      have hs := hold j e (by rw [hj]; rfl)
      have : get j = some b := by simpa [updG, e, hs.1] using hj
      exact blkAt_mono (Store.le_refl σ) hle rfl (h.obj j b K this hp hv)
  · by_cases ej : j = nb
    · subst ej; simp at pj; subst pj
      have ek : k ≠ j := fun e => hjk e.symm
      simp [ek] at pk
      obtain ⟨h1, h2⟩ := hold k ek hk
      rw [hb]; exact h.dis i k L Lk (fun e => h1 e.symm) hg h2 hi pk hr vk
    · simp [ej] at pj
      obtain ⟨h1, h2⟩ := hold j ej hj
      by_cases ek : k = nb
      · subst ek; simp at pk; subst pk
        rw [hb]; exact h.dis j i Lj L h1 h2 hg pj hi vj hr
      · simp [ek] at pk
        obtain ⟨h3, h4⟩ := hold k ek hk
        exact h.dis j k Lj Lk hjk h2 h4 pj pk vj vk
  · by_cases e : j = nb
    · subst e; simp at hj; subst hj; rw [hb]; exact h.lt i L hi hr
    · simp [e] at hj; exact h.lt j K hj hv
  · by_cases e : j = nb
    · subst e; simp at hj; subst hj; rw [hb]; exact h.mine i L hi hr
    · simp [e] at hj; exact h.mine j K hj hv
  · by_cases e : j = nb
    · have : b = blk := by simpa [updG, e] using hj.symm
      subst this; exact hwf
    · have hs := hold j e (by rw [hj]; rfl)
      exact h.wf j b (by simpa [updG, e, hs.1] using hj)
  · by_cases e : j = nb
    · subst e; simp at hp; subst hp
      have : blk = .arr sz n f := by simpa [updG] using hj
      exact hlen sz n f this
    · simp [e] at hp
      have hs := hold j e (by rw [hj]; rfl)
      exact h.len j K sz n f (by simpa [updG, e, hs.1] using hj) hp

def pushRow (w : World) (c : Array Value) (T : TypeId) : World := { w with heap := w.heap.push (.cells c T) }
theorem run_newRow {T : TypeId} {c : Array Value} : (newRow T c).run P w = .ok ⟨w.heap.size, 0, none⟩ (pushRow w c T) := by
  simp [newRow, pushRow]
theorem pushRow_row {c : Array Value} {T : TypeId} : World.row (pushRow w c T) w.heap.size c :=
  ⟨T, (0, 0), by simp [pushRow], ⟨fun o _ => by simp, Nat.le_refl _⟩⟩

theorem cellOk_one {c : AV} {y : Value} (h : cellOk c = true) (hv : V σ φ c y) : y.oneCell' = true := by
  cases hv with
  | base h0 =>
    cases h0 <;> simp [cellOk] at h <;> try rfl
    cases y <;> simp [oneC, Value.oneCell'] at h ⊢
  | agg => simp [cellOk] at h
  | tup => simp [cellOk] at h
  | _ => rfl
theorem cellsOf_ok {x : AV} {cs : List AV} {v : Value} (h : cellsOf x = some cs) (hv : V σ φ x v) : VL σ φ cs v.cells.toList := by
  unfold cellsOf at h
  split at h
  · simp at h; subst h
    obtain ⟨ys, rfl, hl, hp⟩ := hv.agg_inv
    exact VL_of_agg hl hp
  · split at h
    · rename_i hk
      simp at h; subst h
      have h1 := cellOk_one hk hv
      have : v.cells = #[v] := by cases v <;> simp [Value.cells, Value.oneCell'] at h1 ⊢
      rw [this]
      exact ⟨rfl, fun j c y hc hy => by
        cases j with
        | zero => simp at hc hy; subst hc; subst hy; exact hv
        | succ j => simp at hc⟩
    · simp at h
theorem zero_VL (v : Value) : VL σ φ (v.cells.toList.map .v) v.cells.toList :=
  ⟨by simp, fun j c y hc hy => by
    simp only [List.getElem?_map, hy, Option.map_some, Option.some.injEq] at hc
    subst hc; exact V_v y⟩

theorem all_get {p : AV → Bool} {cs : List AV} (h : cs.all p = true) {j : Nat} {c : AV} (hc : cs[j]? = some c) : p c = true :=
  List.all_eq_true.1 h c (List.mem_of_getElem? hc)

theorem alloc_ok {t : TypeId} {cs : List AV} {ys : Array Value} (h : (allocE P nb t cs).get = some out) (hv : VL σ φ cs ys.toList) (hR : R κ σ φ get w) (hn : φ nb = none) :
    Eff P κ σ φ nb get w (do pure (.pointer (some (← newRow t ys)))) out := by
  have hrun : (do pure (.pointer (some (← newRow t ys))) : Sem Value).run P w = .ok (.pointer (some ⟨w.heap.size, 0, none⟩)) (pushRow w ys t) := by
    simp only [Sem.run_bind, run_newRow, Result.andThen_ok, Sem.run_pure]
  unfold allocE at h
  split at h
  · rename_i n elem hu
    split at h
    · rename_i sz hsz
      split at h
      · rename_i hc
        simp only [Bool.and_eq_true, beq_iff_eq] at hc
        obtain ⟨⟨⟨hfree, hcell⟩, hlen⟩, hzl⟩ := hc
        simp only [Tree.get, Option.some.injEq] at h
        subst h
        let L : Lc := ⟨w.heap.size, 0, sz, ys.size, n, false⟩
        refine ⟨_, _, fun k => if k = nb then some L else φ k, hrun, ?_, ?_, ?_, ?_⟩
        · exact fun j K hj => by
            by_cases e : j = nb
            · subst e; rw [hn] at hj; simp at hj
            · simp [e, hj]
        · exact fun k hk hkk => by
            have : k ≠ nb := by simp at hkk; omega
            simp [this, hk]
        · exact .ap (L := L) (by simp) rfl
        · refine hR.new hn rfl rfl rfl rfl rfl (fun φ' hle => ⟨rfl, rfl, ys, pushRow_row, rfl, ?_, fun e he => ?_⟩) (fun e => chain_len _ (chunks_len hlen.symm) hzl) (fun sz' n' f' h' => by cases h'; rfl)
          · have := hv.1; simp at this; show 0 + n * sz ≤ ys.size; omega
          · have hlen' : cs.length = n * sz := hlen.symm
            obtain ⟨h1, h2⟩ := chain_chunks (σ := σ) (φ := φ') hzl hlen' he
            refine ⟨h1, fun j x hx => ?_⟩
            obtain ⟨d, hd, hdv⟩ := h2 j x hx
            have hlt : e * sz + j < ys.size := by
              have := (List.getElem?_eq_some_iff.1 hd).1
              have hl := hv.1; simp at hl; omega
            have hvd := hv.2 (e * sz + j) d ys[e * sz + j] hd (by simp [hlt])
            refine ⟨ys[e * sz + j], by show ys[0 + e * sz + j]? = _; simp [hlt], cellOk_one (all_get hcell hd) hvd, (hdv _).1 (hvd.free (all_get hfree hd))⟩
      · simp [Tree.get] at h
    · simp [Tree.get] at h
  · simp only [Tree.get, Option.some.injEq] at h
    subst h
    let L : Lc := ⟨w.heap.size, 0, 0, ys.size, 0, false⟩
    refine ⟨_, _, fun k => if k = nb then some L else φ k, hrun, ?_, ?_, ?_, ?_⟩
    · exact fun j K hj => by
        by_cases e : j = nb
        · subst e; rw [hn] at hj; simp at hj
        · simp [e, hj]
    · exact fun k hk hkk => by
        have : k ≠ nb := by simp at hkk; omega
        simp [this, hk]
    · exact .ptr (L := L) (i := nb) (o := 0) (by simp) rfl
    · refine hR.new hn rfl rfl rfl rfl rfl (fun φ' hle => ⟨ys, pushRow_row, rfl, ?_, fun j x hx => ?_⟩) trivial (fun _ _ _ h' => by cases h')
      · have := hv.1; simp at this; show 0 + cs.length ≤ ys.size; omega
      · have hlt : j < ys.size := by
          have := (List.getElem?_eq_some_iff.1 hx).1
          have hl := hv.1; simp at hl; omega
        exact ⟨ys[j], by show ys[0 + j]? = _; simp [hlt], (hv.2 j x ys[j] hx (by simp [hlt])).mono (Store.le_refl σ) hle⟩
  · simp [Tree.get] at h

theorem run_storeVar {t : TypeId} {m : Nat} {ad : Addr} {v : Value} {c : Array Value} (hm : szOf P t = some m) (hs : ad.spot = none) (hl : v.cells.size = m)
    (ho : ∀ y ∈ v.cells.toList, y.oneCell' = true) (hrow : World.row w ad.block c) (hb : ad.off + m ≤ c.size) :
    (Instr.storeAt t (.pointer (some ad)) v).run P w = .ok () (putRow w ad.block (splice c ad.off v.cells.toList)) := by
  unfold Instr.storeAt storeVar
  simp only [Sem.run_bind, Instr.sureAddr, Sem.run_pure, Result.andThen_ok, run_sizeOf hm, hl]
  simp only [ne_eq, not_true, if_false]
  have := run_storeCells (P := P) hs v.cells.toList ho 0 w c hrow (by simp [hl]; omega)
  simpa using this

theorem row_put {b : Nat} {c c' : Array Value} (h : World.row w b c) (hs : c'.size = c.size) : World.row (putRow w b c') b c' := by
  obtain ⟨T, fr, h1, h2⟩ := h
  exact ⟨T, fr, putRow_heap h1, ⟨fun o ho => h2 o (by omega), h2.le⟩⟩

theorem splice3 {α : Type} {l vs : List α} {o k : Nat} (h : o + vs.length ≤ l.length) :
    (l.take o ++ vs ++ l.drop (o + vs.length))[k]? = if o ≤ k ∧ k < o + vs.length then vs[k - o]? else l[k]? := by
  by_cases h1 : k < o
  · rw [if_neg (by omega), List.append_assoc, List.getElem?_append_left (by simp; omega)]
    simp [List.getElem?_take, h1]
  · by_cases h2 : k < o + vs.length
    · rw [if_pos ⟨by omega, h2⟩, List.getElem?_append_left (by simp; omega), List.getElem?_append_right (by simp; omega)]
      congr 1; simp; omega
    · rw [if_neg (by omega), List.getElem?_append_right (by simp; omega)]
      simp only [List.getElem?_drop, List.length_append, List.length_take]
      congr 1; omega

theorem store_ok {t : TypeId} {p x : AV} {vp vx : Value} {u : Nat × Option Blk} (h : storeE P get t p x = some u) (hp : V σ φ p vp) (hx : V σ φ x vx) (hR : R κ σ φ get w) :
    ∃ w', (Instr.storeAt t vp vx).run P w = .ok () w' ∧ R κ σ φ (updG get u.1 u.2) w' := by
  unfold storeE at h
  split at h
  · rename_i m vs hm hcs
    have hv := cellsOf_ok hcs hx
    split at h
    · rename_i hlen
      simp only [Bool.and_eq_true, decide_eq_true_eq] at hlen
      obtain ⟨hlen, hone⟩ := hlen
      have hsz : vx.cells.size = m := by have := hv.1; simp at this; omega
      have ho : ∀ y ∈ vx.cells.toList, y.oneCell' = true := by
        intro y hy
        obtain ⟨j, hj⟩ := List.mem_iff_getElem?.1 hy
        have hlt : j < vs.length := by have := (List.getElem?_eq_some_iff.1 hj).1; have := hv.1; omega
        exact cellOk_one (all_get hone (by simp [hlt] : vs[j]? = some vs[j])) (hv.2 j _ y (by simp [hlt]) hj)
      split at h
      · rename_i i o
        split at h
        · rename_i cs hg
          split at h
          · rename_i hb
            simp only [decide_eq_true_eq] at hb
            simp only [Option.some.injEq] at h
            subst h
            cases hp with
            | base h0 => cases h0
            | @ptr _ _ L hL hr =>
              obtain ⟨c, hrow, hcs', hbd, hc⟩ := hR.obj i _ L hg hL hr
              have hst := run_storeVar (P := P) (w := w) (ad := ⟨L.b, L.base + o, none⟩) hm rfl hsz ho hrow (by show L.base + o + m ≤ c.size; omega)
              refine ⟨_, hst, hR.write hL hr (by simp [hg]) (fun b' hb' => putRow_other hb') putRow_size rfl rfl rfl ?_ (fun blk hblk => by simp only [Option.some.injEq] at hblk; subst hblk; trivial) (fun _ _ _ h' => by cases h')⟩
              intro blk hblk
              simp only [Option.some.injEq] at hblk
              subst hblk
              refine ⟨splice c (L.base + o) vx.cells.toList, row_put hrow (splice_size _ _ _), by rw [splice_size]; exact hcs', ?_, fun j y hy => ?_⟩
              · rw [splice_size]; simp; omega
              · rw [← hlen] at hb hy
                rw [splice3 hb] at hy
                rw [splice_get _ _ _ _ (by simp [hsz]; omega)]
                split at hy
                · rename_i hin
                  have hlt : j - o < vx.cells.toList.length := by simp [hsz]; omega
                  refine ⟨vx.cells.toList[j - o], ?_, hv.2 (j - o) y _ hy (by simp [hlt])⟩
                  rw [if_pos (by simp [hsz]; omega), show L.base + j - (L.base + o) = j - o by omega]
                  simp [hlt]
                · rename_i hout
                  rw [if_neg (by simp [hsz]; omega)]
                  exact hc j y hy
          · simp at h
        · simp at h
      · rename_i i e o
        split at h
        · rename_i sz n f hg
          split at h
          · rename_i hb
            simp only [Bool.and_eq_true, decide_eq_true_eq] at hb
            obtain ⟨hb, hfree⟩ := hb
            simp only [Option.some.injEq] at h
            subst h
            cases hp with
            | base h0 => cases h0
            | @eptr _ _ _ L hL hr he =>
              obtain ⟨e1, e2, c, hrow, hcs', hbd, hc⟩ := hR.obj i _ L hg hL hr
              subst e1; subst e2
              have hmul : ∀ k, k < L.n → k * L.sz + L.sz ≤ L.n * L.sz := fun k hk => by
                have : (k + 1) * L.sz ≤ L.n * L.sz := Nat.mul_le_mul_right _ hk
                rwa [Nat.succ_mul] at this
              have hst := run_storeVar (P := P) (w := w) (ad := ⟨L.b, L.base + e * L.sz + o, none⟩) hm rfl hsz ho hrow (by show L.base + e * L.sz + o + m ≤ c.size; have := hmul e he; omega)
              refine ⟨_, hst, hR.write hL hr (by simp [hg]) (fun b' hb' => putRow_other hb') putRow_size rfl rfl rfl ?_ (fun blk hblk => by
                simp only [Option.some.injEq] at hblk; subst hblk
                intro k
                have hw := hR.wf i _ hg
                have hspl : ((f e).take o ++ vs ++ (f e).drop (o + m)).length = L.sz := by have := hw e; simp [this]; omega
                rw [mixL_len (by rw [hspl, hw k]), hspl]) (fun _ _ _ h' => by cases h'; rfl)⟩
              intro blk hblk
              simp only [Option.some.injEq] at hblk
              subst hblk
              refine ⟨rfl, rfl, splice c (L.base + e * L.sz + o) vx.cells.toList, row_put hrow (splice_size _ _ _), by rw [splice_size]; exact hcs', by rw [splice_size]; exact hbd, fun k hk => ?_⟩
              have hle := hc e he
              have hlk := hc k hk
              have hspl : ((f e).take o ++ vs ++ (f e).drop (o + m)).length = L.sz := by simp [hle.1]; omega
              refine ⟨by rw [mixL_len (by rw [hspl, hlk.1]), hspl], fun j y hy => ?_⟩
              obtain ⟨a, b, ha, hb', rfl⟩ := mixL_get hy
              have hj : j < L.sz := by have := (List.getElem?_eq_some_iff.1 hb').1; omega
              rw [splice_get _ _ _ _ (by simp [hsz]; have := hmul e he; omega)]
              have hlenv : vx.cells.toList.length = m := by simp [hsz]
              rw [hlenv]
              by_cases hke : k = e
              · subst hke
                rw [← hlen] at ha
                rw [splice3 (by rw [hle.1]; omega)] at ha
                by_cases hin : o ≤ j ∧ j < o + m
                · rw [if_pos (by omega)] at ha
                  rw [if_pos (by omega), show L.base + k * L.sz + j - (L.base + k * L.sz + o) = j - o by omega]
                  have hlt : j - o < vx.cells.toList.length := by omega
                  have hva := hv.2 (j - o) a _ ha (by simp [hlt] : vx.cells.toList[j - o]? = some vx.cells.toList[j - o])
                  refine ⟨vx.cells.toList[j - o], by simp [hlt], ho _ (by simp), mix_ok0 ?_⟩
                  rw [Nat.beq_refl]
                  exact hva.free (all_get hfree ha)
                · rw [if_neg (by omega)] at ha
                  rw [if_neg (by omega)]
                  obtain ⟨y', hy', hy1, hv'⟩ := hle.2 j a ha
                  refine ⟨y', hy', hy1, mix_ok0 ?_⟩
                  rw [Nat.beq_refl]; exact hv'
              · have hne : Nat.beq k e = false := by
                  cases hb : Nat.beq k e with
                  | false => rfl
                  | true => exact absurd (Nat.eq_of_beq_eq_true hb) hke
                have hout : ¬ (L.base + e * L.sz + o ≤ L.base + k * L.sz + j ∧ L.base + k * L.sz + j < L.base + e * L.sz + o + m) := by
                  rcases Nat.lt_or_gt_of_ne hke with hlt | hgt
                  · have : k * L.sz + L.sz ≤ e * L.sz := by
                      have : (k + 1) * L.sz ≤ e * L.sz := Nat.mul_le_mul_right _ hlt
                      rwa [Nat.succ_mul] at this
                    omega
                  · have : e * L.sz + L.sz ≤ k * L.sz := by
                      have : (e + 1) * L.sz ≤ k * L.sz := Nat.mul_le_mul_right _ hgt
                      rwa [Nat.succ_mul] at this
                    omega
                rw [if_neg hout]
                obtain ⟨y', hy', hy1, hv'⟩ := hlk.2 j b hb'
                refine ⟨y', hy', hy1, mix_ok0 ?_⟩
                rw [hne]; exact hv'
          · simp at h
        · simp at h
      · rename_i i
        split at h
        · rename_i sz n f hg
          split at h
          · rename_i hb
            simp only [Bool.and_eq_true, decide_eq_true_eq] at hb
            obtain ⟨⟨hb, hfree⟩, hzl⟩ := hb
            simp only [Option.some.injEq] at h
            subst h
            cases hp with
            | base h0 => cases h0
            | @ap _ L hL hr =>
              obtain ⟨e1, e2, c, hrow, hcs', hbd, hc⟩ := hR.obj i _ L hg hL hr
              subst e1; subst e2
              have hst := run_storeVar (P := P) (w := w) (ad := ⟨L.b, L.base, none⟩) hm rfl hsz ho hrow (by show L.base + m ≤ c.size; omega)
              refine ⟨_, hst, hR.write hL hr (by simp [hg]) (fun b' hb' => putRow_other hb') putRow_size rfl rfl rfl ?_ (fun blk hblk => by
                simp only [Option.some.injEq] at hblk; subst hblk
                exact fun e => chain_len _ (chunks_len (by omega)) hzl) (fun _ _ _ h' => by cases h'; rfl)⟩
              intro blk hblk
              simp only [Option.some.injEq] at hblk
              subst hblk
              refine ⟨rfl, rfl, splice c L.base vx.cells.toList, row_put hrow (splice_size _ _ _), by rw [splice_size]; exact hcs', by rw [splice_size]; exact hbd, fun e he => ?_⟩
              have hlen' : vs.length = L.n * L.sz := by omega
              obtain ⟨h1, h2⟩ := chain_chunks (σ := σ) (φ := φ) hzl hlen' he
              refine ⟨h1, fun j y hy => ?_⟩
              obtain ⟨d, hd, hdv⟩ := h2 j y hy
              have hlt : e * L.sz + j < vx.cells.toList.length := by
                have := (List.getElem?_eq_some_iff.1 hd).1
                rw [← hv.1]; exact this
              have hvd := hv.2 (e * L.sz + j) d _ hd (by simp [hlt] : vx.cells.toList[e * L.sz + j]? = some vx.cells.toList[e * L.sz + j])
              rw [splice_get _ _ _ _ (by simp [hsz]; omega), if_pos (by omega)]
              refine ⟨vx.cells.toList[e * L.sz + j], ?_, ho _ (by simp), (hdv _).1 (hvd.free (all_get hfree hd))⟩
              rw [show L.base + e * L.sz + j - L.base = e * L.sz + j by omega]
              simp [hlt]
          · simp at h
        · simp at h
      · simp at h
    · simp at h
  · simp at h
end
end Go.Eng

namespace Go.Eng
open Go

section
variable {P : Program} {κ : Ctx} {σ : Store} {φ : Places} {get : Get} {w : World} {out : OpOut} {nb : Nat}

def Src (σ : Store) (ys : List Value) (sz k : Nat) (g : Nat → List AV) : Prop :=
  ys.length = k * sz ∧ (∀ e, (g e).length = sz) ∧ (∀ y ∈ ys, y.oneCell' = true) ∧ ∀ e, e < k → ∀ (j : Nat) (c : AV), (g e)[j]? = some c → ∃ y, ys[e * sz + j]? = some y ∧ V0 σ c y

theorem src_one {ys : List Value} {sz k : Nat} {g : Nat → List AV} (hl : ys.length = k * sz) (hw : ∀ e, (g e).length = sz)
    (h : ∀ e, e < k → ∀ (j : Nat) (c : AV), (g e)[j]? = some c → ∃ y, ys[e * sz + j]? = some y ∧ y.oneCell' = true ∧ V0 σ c y) : Src σ ys sz k g := by
  refine ⟨hl, hw, fun y hy => ?_, fun e he j c hc => let ⟨y, h1, _, h2⟩ := h e he j c hc; ⟨y, h1, h2⟩⟩
  obtain ⟨i, hi⟩ := List.mem_iff_getElem?.1 hy
  have hlt : i < k * sz := by have := (List.getElem?_eq_some_iff.1 hi).1; omega
  have hsz : 0 < sz := by rcases Nat.eq_zero_or_pos sz with h0 | h0; · subst h0; simp at hlt
                          · exact h0
  have he : i / sz < k := (Nat.div_lt_iff_lt_mul hsz).2 hlt
  have hj : i % sz < sz := Nat.mod_lt _ hsz
  have h1 := hw (i / sz)
  obtain ⟨y', hy', ho, _⟩ := h _ he (i % sz) _ (by simp [h1, hj] : (g (i / sz))[i % sz]? = some (g (i / sz))[i % sz])
  have : i / sz * sz + i % sz = i := by rw [Nat.mul_comm]; exact Nat.div_add_mod i sz
  rw [this] at hy'
  rw [hi] at hy'
  simp at hy'; subst hy'; exact ho

theorem cell_heap {w' : World} (h : w'.heap = w.heap) (a : Addr) : w'.cell? a = w.cell? a := by simp [World.cell?, h]
theorem source_ok {x : AV} {vx : Value} {k sz : Nat} {g : Nat → List AV} (h : source get x = some (k, g)) (hz : srcSz get x = some sz) (hx : V σ φ x vx) (hR : R κ σ φ get w) :
    (Builtin.lenOf vx).run P w = .ok k w ∧ ∀ m, m ≤ k → ∃ ys : List Value, (∀ w' : World, w'.heap = w.heap → (Builtin.firstCells sz m vx).run P w' = .ok ys.toArray w') ∧ Src σ ys sz m g := by
  unfold source at h
  split at h
  · rename_i s
    simp only [Option.some.injEq, Prod.mk.injEq] at h
    obtain ⟨rfl, rfl⟩ := h
    simp [srcSz] at hz; subst hz
    cases hx.v_eq
    refine ⟨rfl, fun m hm => ⟨(s.data.toList.take m).map fun b => .int .u8 b.toNat, ?_, src_one ?_ (fun _ => rfl) fun e he j c hc => ?_⟩⟩
    · intro w' _
      simp only [Builtin.firstCells, Sem.run_pure]
      congr 2
      apply Array.ext'
      have hm' : m ≤ s.data.size := hm
      simp [ByteArray.data_extract, Array.toList_extract, List.extract_eq_drop_take']
    · have hm' : m ≤ s.data.size := hm
      simp; omega
    · have hm' : m ≤ s.data.size := hm
      have hlt : e < s.data.size := by omega
      cases j with
      | succ j => simp at hc
      | zero =>
        simp at hc; subst hc
        refine ⟨.int .u8 (s.data[e].toNat), ?_, rfl, ?_⟩
        · simp only [Nat.mul_one, Nat.add_zero, List.getElem?_map, List.getElem?_take, if_pos he, Array.getElem?_toList]
          rw [Array.getElem?_eq_getElem hlt]; rfl
        · have : sbyte s e = (s.data[e].toNat : Int) := by simp only [sbyte]; rw [Array.getElem?_eq_getElem hlt]; rfl
          rw [this]; exact .v _
  · rename_i sz' n f
    simp only [Option.some.injEq, Prod.mk.injEq] at h
    obtain ⟨rfl, rfl⟩ := h
    simp [srcSz] at hz; subst hz
    cases hx with
    | base hx =>
      cases hx with
      | sl _ _ _ ad cap ys hs hn hl hm ho hv =>
        refine ⟨rfl, fun m hm' => ?_⟩
        by_cases hsz : sz' = 0
        · subst hsz
          refine ⟨[], by intro w' _; simp [Builtin.firstCells, loadCells, loadCellsFrom], src_one (by simp) hl fun e he j c hc => ?_⟩
          have := (List.getElem?_eq_some_iff.1 hc).1
          rw [hl e] at this; omega
        · have hpos : 0 < sz' := Nat.pos_of_ne_zero hsz
          have hload := fun (w' : World) (hw' : w'.heap = w.heap) => run_loadCells_of (P := P) (w := w') (a := ad) (m := m * sz') (fun i => ys (i / sz') (i % sz')) (fun i hi => by
            have he : i / sz' < m := (Nat.div_lt_iff_lt_mul hpos).2 hi
            have hj : i % sz' < sz' := Nat.mod_lt _ hpos
            have hlen := hl (i / sz')
            have hcell := hR.cell _ _ _ (hm (i / sz') (i % sz') ((f (i / sz'))[i % sz']'(by omega)) (by omega) (by simp [hlen, hj]))
            rw [Addr.add_none hs, cell_heap hw']
            rw [Nat.add_assoc, Nat.mul_comm (i / sz') sz', Nat.div_add_mod] at hcell
            exact hcell)
          refine ⟨_, by intro w' hw'; simp only [Builtin.firstCells]; exact hload w' hw', src_one (by simp) hl fun e he j c hc => ?_⟩
          have hj : j < sz' := by have := (List.getElem?_eq_some_iff.1 hc).1; rw [hl e] at this; exact this
          have hlt : e * sz' + j < m * sz' := by
            have : (e + 1) * sz' ≤ m * sz' := Nat.mul_le_mul_right _ he
            rw [Nat.succ_mul] at this; omega
          have e1 : (e * sz' + j) / sz' = e := by rw [Nat.mul_comm, Nat.mul_add_div hpos, Nat.div_eq_of_lt hj]; omega
          have e2 : (e * sz' + j) % sz' = j := by rw [Nat.mul_comm, Nat.mul_add_mod, Nat.mod_eq_of_lt hj]
          refine ⟨ys e j, ?_, ho e j c (by omega) hc, hv e j c (by omega) hc⟩
          simp [List.getElem?_range hlt, e1, e2]
      | slnil _ _ _ A cap hl hn ha =>
        subst hn
        refine ⟨rfl, fun m hm => ?_⟩
        have : m = 0 := by omega
        subst this
        refine ⟨[], ?_, src_one (by simp) hl fun e he => by omega⟩
        intro w' _
        cases A <;> simp [Builtin.firstCells, loadCells, loadCellsFrom]
  · rename_i id e n
    split at h
    · rename_i sz' N f hg
      simp only [Option.some.injEq, Prod.mk.injEq] at h
      obtain ⟨rfl, rfl⟩ := h
      simp [srcSz, hg] at hz; subst hz
      cases hx with
      | base hx => cases hx
      | @hs _ _ _ cap L hL hr hn he hxx hcc =>
        refine ⟨rfl, fun m hm => ?_⟩
        obtain ⟨e1, e2, c, hrow, hcs, hbd, hc⟩ := hR.obj id _ L hg hL hr
        subst e1; subst e2
        have hmul : (e + m) * L.sz ≤ L.n * L.sz := Nat.mul_le_mul_right _ (by omega)
        rw [Nat.add_mul] at hmul
        have hload := fun (w' : World) (hw' : w'.heap = w.heap) => run_loadCells (P := P) (w := w') (a := ⟨L.b, L.base + e * L.sz, none⟩) ((c.toList.drop (L.base + e * L.sz)).take (m * L.sz)) (fun j y hy => by
          obtain ⟨hj, hy⟩ := take_get hy
          rw [Addr.add_none rfl, cell_heap hw', hrow.cell]; simpa using hy)
        have hlen : ((c.toList.drop (L.base + e * L.sz)).take (m * L.sz)).length = m * L.sz := by simp; omega
        rw [hlen] at hload
        refine ⟨_, by intro w' hw'; simp only [Builtin.firstCells]; exact hload w' hw', src_one hlen (fun k => hR.wf id _ hg (e + k)) fun k hk j x hx => ?_⟩
        obtain ⟨h1, h2⟩ := hc (e + k) (by omega)
        obtain ⟨y, hy, ho, hv⟩ := h2 j x hx
        have hj : j < L.sz := by have := (List.getElem?_eq_some_iff.1 hx).1; omega
        have hlt : k * L.sz + j < m * L.sz := by
          have : (k + 1) * L.sz ≤ m * L.sz := Nat.mul_le_mul_right _ hk
          rw [Nat.succ_mul] at this; omega
        refine ⟨y, ?_, ho, hv⟩
        rw [List.getElem?_take, if_pos hlt]
        simp only [List.getElem?_drop, Array.getElem?_toList]
        rw [← hy]; congr 1; rw [Nat.add_mul]; omega
      | hsnil A _ _ hn =>
        subst hn
        refine ⟨rfl, fun m hm => ?_⟩
        have : m = 0 := by omega
        subst this
        refine ⟨[], ?_, src_one (by simp) (fun k => hR.wf id _ hg (e + k)) fun e he => by omega⟩
        intro w' _
        cases A <;> simp [Builtin.firstCells, loadCells, loadCellsFrom]
    · simp at h
  · simp at h

def fresh (φ : Places) (nb : Nat) (L : Lc) : Places := fun k => if k = nb then some L else φ k
theorem fresh_le (hn : φ nb = none) (L : Lc) : φ.le (fresh φ nb L) := fun j K hj => by
  by_cases e : j = nb
  · subst e; rw [hn] at hj; simp at hj
  · simp [fresh, e, hj]
theorem fresh_none {L : Lc} {m k : Nat} (hk : φ k = none) (h : k < nb ∨ nb + (m + 1) ≤ k) : fresh φ nb L k = none := by
  have : k ≠ nb := by omega
  simp [fresh, this, hk]

theorem growBy_le (newLen : Nat) : ∀ (r c : Nat), c < newLen → Builtin.growBy newLen r c ≤ newLen + newLen / 4 + 192 := by
  intro r
  induction r with
  | zero => intro c h; simp [Builtin.growBy]; omega
  | succ r ih =>
    intro c h
    simp only [Builtin.growBy]
    rw [if_neg (by omega)]
    by_cases h2 : c + (c + 768) / 4 < newLen
    · exact ih _ h2
    · cases r with
      | zero => simp [Builtin.growBy]; omega
      | succ r => simp only [Builtin.growBy]; rw [if_pos (by omega)]; omega
theorem nextcap_le {need cap : Nat} (h : cap < need) : Builtin.nextslicecap need cap ≤ 2 * need + 512 := by
  unfold Builtin.nextslicecap
  split
  · omega
  · split
    · omega
    · have := growBy_le need 4 cap h; omega

theorem cut_ge {need old : Nat} {e : TypeId} {t : Nat} : need ≤ (Question.appendCap need old e).cut t := by
  simp only [Question.cut]; exact Nat.le_add_right _ _
theorem run_append_new {ts : Array TypeId} {t tx elem rt : TypeId} {tu : TypeDesc} {base : Option Addr} {sLen sCap k sz bytes : Nat} {vx : Value} {old ys : List Value} {z : Value}
    (h0 : ts[0]? = some t) (h1 : ts[1]? = some tx) (hu : P.underlying t = some (.slice elem)) (hsz : szOf P elem = some sz) (hby : bytesOfT P elem = some bytes)
    (hz : (zeroValue elem).run P w = .ok z w) (hz' : ∀ w', (zeroValue elem).run P w' = .ok z w') (htu : P.underlying tx = some tu) (hni : ∀ k, tu ≠ .int k) (hroom : roomOk bytes (sLen + k) = true)
    (hlen : ∀ w', (Builtin.lenOf vx).run P w' = .ok k w') (hgrow : sCap < sLen + k)
    (hold : ∀ w' : World, w'.heap = w.heap → (Builtin.firstCells sz sLen (.slice base sLen sCap)).run P w' = .ok old.toArray w')
    (hnew : ∀ w' : World, w'.heap = w.heap → (Builtin.firstCells sz k vx).run P w' = .ok ys.toArray w') :
    ∃ (newCap : Nat) (rest : Array Value) (w' : World), sLen + k ≤ newCap ∧ rest.size = (newCap - (sLen + k)) * z.cells.size ∧
      (Builtin.append_ ts rt #[.slice base sLen sCap, vx]).run P w = .ok (.slice (some ⟨w.heap.size, 0, none⟩) (sLen + k) newCap) w' ∧
      w'.heap = w.heap.push (.cells (old.toArray ++ ys.toArray ++ rest) elem) ∧ w'.tape = w.tape ∧ w'.os = w.os ∧ w'.output = w.output := by
  obtain ⟨i, hi, hib⟩ := bytesOfT_some hby
  have hq : (Question.appendCap (sLen + k) sCap elem).forced = false := rfl
  let nc := (Question.appendCap (sLen + k) sCap elem).cut (w.tape w.drawn (.appendCap (sLen + k) sCap elem))
  let w1 : World := { w with drawn := w.drawn + 1 }
  refine ⟨nc, Builtin.zeroCells z.cells (nc - (sLen + k)), { w1 with heap := w1.heap.push (.cells (old.toArray ++ ys.toArray ++ Builtin.zeroCells z.cells (nc - (sLen + k))) elem) }, ?_, ?_, ?_, rfl, rfl, rfl, rfl⟩
  · exact cut_ge
  · simp [Builtin.zeroCells]
  · simp only [roomOk, decide_eq_true_eq] at hroom
    have hb0 : Builtin.nextslicecap (sLen + k) sCap * bytes ≤ 2 ^ 48 := by
      have h1 := nextcap_le hgrow
      have h2 : Builtin.nextslicecap (sLen + k) sCap * bytes ≤ (2 * (sLen + k) + 512) * (bytes + 1) := Nat.mul_le_mul h1 (by omega)
      have h3 : (2 : Nat) ^ 48 = 281474976710656 := by decide
      rw [h3]; exact Nat.le_trans h2 hroom
    have hneed : ¬ ((sLen + k : Nat) : Int) > IntKind.i64.max := by
      have e : IntKind.i64.max = 9223372036854775807 := by decide
      have : (2 * (sLen + k) + 512) * 1 ≤ (2 * (sLen + k) + 512) * (bytes + 1) := Nat.mul_le_mul_left _ (by omega)
      rw [e]; omega
    have hzeros : ((match tu with | .int _ => true | _ => false) : Bool) = false := by
      cases tu <;> first | rfl | exact absurd rfl (hni _)
    have hold1 := hold { w with drawn := w.drawn + 1 } rfl
    have hnew1 := hnew { w with drawn := w.drawn + 1 } rfl
    unfold Builtin.append_
    simp only [h0, h1, show (#[Value.slice base sLen sCap, vx] : Array Value)[0]? = some (.slice base sLen sCap) from rfl, show (#[Value.slice base sLen sCap, vx] : Array Value)[1]? = some vx from rfl,
      Sem.run_bind, run_underlying hu, Result.andThen_ok, run_sizeOf hsz, run_underlying htu, Sem.run_pure]
    cases tu <;> first | exact absurd rfl (hni _) | skip
    all_goals
      simp only [Bool.false_eq_true, if_false, Sem.run_bind, hlen, Result.andThen_ok, Sem.run_ite, run_typeInfo hi, hib]
      rw [if_neg (by omega)]
      simp only [false_or, Sem.run_bind, Sem.run_ite]
      rw [if_neg (by intro hh; exact hneed hh.1)]
      rw [if_neg (by omega)]
      simp only [run_choose, hq, Bool.false_eq_true, if_false, Result.andThen_ok, run_askRoom, hold1, hnew1, hz', not_false_eq_true, if_true, Bool.not_false, run_newRow, Sem.run_pure]
      rfl
end
end Go.Eng

namespace Go.Eng
open Go

section
variable {P : Program} {κ : Ctx} {σ : Store} {φ : Places} {get : Get} {w : World} {out : OpOut} {nb : Nat} {ip : Bool}

theorem blk_new {w' : World} {sz n : Nat} {f : Nat → List AV} {ys : List Value} {rest : Array Value} {T : TypeId} {fr : Nat × Nat}
    (hheap : w'.heap = w.heap.push (.cells (ys.toArray ++ rest) T fr)) (hfr : FrOk fr (ys.toArray ++ rest).size)
    (hs : Src σ ys sz n f) {φ' : Places} :
    blkAt σ φ' w' ⟨w.heap.size, 0, sz, (ys.toArray ++ rest).size, n, false⟩ (.arr sz n f) := by
  refine ⟨rfl, rfl, ys.toArray ++ rest, ⟨T, fr, by rw [hheap]; simp, hfr⟩, rfl, ?_, fun e he => ⟨hs.2.1 e, fun j x hx => ?_⟩⟩
  · have := hs.1; simp; omega
  · obtain ⟨y, hy, hv⟩ := hs.2.2.2 e he j x hx
    have hlt := (List.getElem?_eq_some_iff.1 hy).1
    refine ⟨y, ?_, hs.2.2.1 y (List.mem_of_getElem? hy), hv⟩
    show (ys.toArray ++ rest)[0 + e * sz + j]? = some y
    rw [Nat.zero_add, Array.getElem?_append_left (by simpa using hlt)]
    simpa using hy

theorem src_append {ys zs : List Value} {sz n k : Nat} {f g : Nat → List AV} (h1 : Src σ ys sz n f) (h2 : Src σ zs sz k g) :
    Src σ (ys ++ zs) sz (n + k) fun j => mixL (decide (j < n)) (f j) (g (j - n)) := by
  obtain ⟨l1, w1, o1, c1⟩ := h1
  obtain ⟨l2, w2, o2, c2⟩ := h2
  have hw : ∀ e, (mixL (decide (e < n)) (f e) (g (e - n))).length = sz := fun e => by rw [mixL_len (by rw [w1, w2]), w1]
  refine ⟨by simp [l1, l2, Nat.add_mul], hw, fun y hy => ?_, fun e he j c hc => ?_⟩
  · rcases List.mem_append.1 hy with h | h
    · exact o1 y h
    · exact o2 y h
  · obtain ⟨a, b, ha, hb, rfl⟩ := mixL_get hc
    have hj : j < sz := by have := (List.getElem?_eq_some_iff.1 ha).1; rw [w1] at this; exact this
    by_cases hlt : e < n
    · obtain ⟨y, hy, hv⟩ := c1 e hlt j a ha
      refine ⟨y, ?_, mix_ok0 (by rw [decide_eq_true hlt]; exact hv)⟩
      have := (List.getElem?_eq_some_iff.1 hy).1
      rw [List.getElem?_append_left this]; exact hy
    · obtain ⟨y, hy, hv⟩ := c2 (e - n) (by omega) j b hb
      refine ⟨y, ?_, mix_ok0 (by rw [decide_eq_false hlt]; exact hv)⟩
      have hge : n * sz ≤ e * sz := Nat.mul_le_mul_right _ (by omega)
      rw [List.getElem?_append_right (by rw [l1]; omega), l1]
      rw [← hy]; congr 1
      rw [Nat.sub_mul]; omega

theorem src_same {ys : List Value} {sz n : Nat} {f : Nat → List AV} (h : Src σ ys sz n f) {n' : Nat} (e : n' = n) : Src σ ys sz n' f := by subst e; exact h

theorem own_src {id e n : Nat} {L : Lc} {sz N : Nat} {f : Nat → List AV} (hR : R κ σ φ get w) (hg : get id = some (.arr sz N f)) (hL : φ id = some L) (hr : L.virt = false) (he : e + n ≤ L.n) :
    ∃ c, World.row w L.b c ∧ c.size = L.size ∧ sz = L.sz ∧ N = L.n ∧ L.base + N * sz ≤ c.size ∧
      (∀ k, k < N → ∀ (j : Nat) (x : AV), (f k)[j]? = some x → ∃ y, c[L.base + k * sz + j]? = some y ∧ y.oneCell' = true ∧ V0 σ x y) := by
  obtain ⟨e1, e2, c, hrow, hcs, hbd, hc⟩ := hR.obj id _ L hg hL hr
  exact ⟨c, hrow, hcs, e1, e2, by rw [e1, e2] at *; exact hbd, fun k hk j x hx => by subst e1; exact (hc k (by omega)).2 j x hx⟩

theorem own_append {id e n k cap : Nat} {L : Lc} {sz N : Nat} {f g : Nat → List AV} {ys : List Value} (hR : R κ σ φ get w) (hg : get id = some (.arr sz N f)) (hL : φ id = some L) (hr : L.virt = false)
    (he : e + n ≤ L.n) (hcc : L.base + e * L.sz + cap * L.sz ≤ L.size) (hk : n + k ≤ cap) (hS : Src σ ys sz k g) :
    ∃ c, World.row w L.b c ∧ c.size = L.size ∧ sz = L.sz ∧ L.base + e * sz + n * sz + ys.length ≤ c.size ∧
      ∀ {σ' : Store} {φ' : Places}, σ.le σ' →
        blkAt σ' φ' (putRow w L.b (splice c (L.base + e * sz + n * sz) ys)) ⟨L.b, L.base + e * sz, sz, L.size, n + k, false⟩ (.arr sz (n + k) fun j => mixL (decide (j < n)) (f (e + j)) (g (j - n))) := by
  obtain ⟨c, hrow, hcs, rfl, rfl, hbd, hc⟩ := own_src hR hg hL hr he
  have hkk : (n + k) * L.sz ≤ cap * L.sz := Nat.mul_le_mul_right _ hk
  rw [Nat.add_mul] at hkk
  have hlen := hS.1
  have hfit : L.base + e * L.sz + n * L.sz + ys.length ≤ c.size := by omega
  refine ⟨c, hrow, hcs, rfl, hfit, fun {σ' φ'} hs => ⟨rfl, rfl, _, row_put hrow (splice_size _ _ _), by rw [splice_size]; exact hcs, ?_, fun j hj => ?_⟩⟩
  · rw [splice_size]; show L.base + e * L.sz + (n + k) * L.sz ≤ c.size; rw [Nat.add_mul]; omega
  · have hwf := hR.wf id _ hg
    refine ⟨by rw [mixL_len (by rw [hwf, hS.2.1]), hwf], fun i x hx => ?_⟩
    obtain ⟨a, b, ha, hb, rfl⟩ := mixL_get hx
    have hi : i < L.sz := by have := (List.getElem?_eq_some_iff.1 hb).1; rw [hS.2.1] at this; exact this
    show ∃ y, (splice c (L.base + e * L.sz + n * L.sz) ys)[L.base + e * L.sz + j * L.sz + i]? = some y ∧ _
    rw [splice_get _ _ _ _ hfit]
    by_cases hlt : j < n
    · have : (j + 1) * L.sz ≤ n * L.sz := Nat.mul_le_mul_right _ hlt
      rw [Nat.succ_mul] at this
      rw [if_neg (by omega)]
      obtain ⟨y, hy, ho, hv⟩ := hc (e + j) (by omega) i a ha
      refine ⟨y, ?_, ho, mix_ok0 (by rw [decide_eq_true hlt]; exact hv.mono hs)⟩
      rw [← hy]; congr 1; rw [Nat.add_mul]; omega
    · obtain ⟨y, hy, hv⟩ := hS.2.2.2 (j - n) (by omega) i b hb
      have hge : n * L.sz ≤ j * L.sz := Nat.mul_le_mul_right _ (by omega)
      have hle : (j + 1) * L.sz ≤ (n + k) * L.sz := Nat.mul_le_mul_right _ (by omega)
      rw [Nat.succ_mul, Nat.add_mul] at hle
      rw [if_pos (by omega)]
      refine ⟨y, ?_, hS.2.2.1 y (List.mem_of_getElem? hy), mix_ok0 (by rw [decide_eq_false hlt]; exact hv.mono hs)⟩
      rw [← hy]; congr 1; rw [Nat.sub_mul]; omega

theorem fresh_at {L : Lc} : fresh φ nb L nb = some L := by simp [fresh]
theorem R.moveW (h : R κ σ φ get w) {i : Nat} {L L' : Lc} {blk : Blk} {w' : World} {c' : Array Value} (hi : φ i = some L) (hr : L.virt = false) (hg : (get i).isSome) (hn : φ nb = none) (hb : L'.b = L.b)
    (hrow : World.row w' L.b c') (hcs : c'.size = L.size) (hbase : L.base ≤ L.size)
    (hw : ∀ b', b' ≠ L.b → w'.heap[b']? = w.heap[b']?) (hsz : w'.heap.size = w.heap.size) (ht : w'.tape = w.tape) (ho : w'.os = w.os) (hu : w'.output = w.output)
    (hblk : ∀ φ' : Places, φ.le φ' → blkAt σ φ' w' L' blk) (hwf : blkWf blk) (hlen : ∀ sz n f, blk = .arr sz n f → n = L'.n) : R κ σ (fresh φ nb L') (updG (updG get i none) nb (some blk)) w' := by
  have h1 := h.write (b := some (.row [])) hi hr hg hw hsz ht ho hu (fun b hb' => by
    simp at hb'; subst hb'
    exact ⟨c', hrow, hcs, by simp; omega, fun j x hx => by simp at hx⟩) (fun b hb' => by simp at hb'; subst hb'; trivial) (fun _ _ _ h' => by simp at h')
  have h2 := h1.move hi hr (by simp [updG]) hn hb hblk hwf hlen
  have e : updG (updG (updG get i (some (.row []))) i none) nb (some blk) = updG (updG get i none) nb (some blk) := by
    funext k
    simp only [updG]
    split
    · rfl
    · split <;> rfl
  rw [e] at h2
  exact h2

theorem append_ok {ts : Array TypeId} {rt : TypeId} {s x : AV} {vs vx : Value} (h : (appendE P ip nb get ts s x).get = some out) (hs : V σ φ s vs) (hx : V σ φ x vx)
    (hR : R κ σ φ get w) (hn : ∀ k, nb ≤ k → k < nb + out.new.length → φ k = none) : Eff P κ σ φ nb get w (Builtin.append_ ts rt #[vs, vx]) out := by
  unfold appendE at h
  split at h
  · rename_i t tx h0 h1
    split at h
    · rename_i elem hel
      have hu := elemOfT_some hel
      split at h
      · rename_i sz bytes tu hsz hby htu
        split at h
        · simp [Tree.get] at h
        · rename_i hcond
          simp only [Bool.or_eq_false_iff] at hcond
          obtain ⟨hni, hzs⟩ := hcond
          have hni' : ∀ k, tu ≠ .int k := by intro k hk; subst hk; simp [isIntD] at hni
          obtain ⟨zv, hzsz, hzr'⟩ : ∃ zv : Value, zv.cells.size = sz ∧ ∀ w', (zeroValue elem).run P w' = .ok zv w' := by
            unfold zeroLenOk zeroOf at hzs
            cases hi : P.info? elem with
            | none => simp [hi] at hzs
            | some i =>
              cases hzo : i.zero with
              | none => simp [hi, hzo] at hzs
              | some v0 => exact ⟨v0, Nat.eq_of_beq_eq_true (by simpa [hi, hzo] using hzs), fun w' => by simp [zeroValue, run_typeInfo hi, hzo]⟩
          -- what append does where there is room
          have room : ∀ (base : Option Addr) (sLen sCap k : Nat) (ys : List Value) (w' : World), vs = .slice base sLen sCap → (Builtin.lenOf vx).run P w = .ok k w →
              (Builtin.firstCells sz k vx).run P w = .ok ys.toArray w → sLen + k ≤ sCap →
              (match base with
                | some a => (storeCells (a.add (sLen * sz)) ys).run P w = .ok () w'
                | none => w' = w) →
              (Builtin.append_ ts rt #[vs, vx]).run P w = .ok (.slice base (sLen + k) sCap) w' := by
            intro base sLen sCap k ys w' hvs hlen hfc hle hst
            subst hvs
            unfold Builtin.append_
            simp only [h0, h1, show (#[Value.slice base sLen sCap, vx] : Array Value)[0]? = some (.slice base sLen sCap) from rfl, show (#[Value.slice base sLen sCap, vx] : Array Value)[1]? = some vx from rfl,
              Sem.run_bind, run_underlying hu, Result.andThen_ok, run_sizeOf hsz, run_underlying htu, Sem.run_pure]
            cases tu <;> first | exact absurd rfl (hni' _) | skip
            all_goals
              simp only [Bool.false_eq_true, if_false, Sem.run_bind, hlen, Result.andThen_ok, Sem.run_ite, hle, if_true, Bool.not_false, hfc]
              cases base with
              | none => simp only at hst; subst hst; simp
              | some a => simp only at hst ⊢; simp [hst]
          unfold appendC at h
          split at h
          · -- nothing is appended
            rename_i hnx
            have hvx : vx = .slice none 0 0 := by
              unfold isNilS at hnx
              split at hnx
              · exact hx.v_eq
              · simp at hnx
            subst hvx
            split at h
            · rename_i hns
              obtain rfl := get_one h
              have hvs : vs = .slice none 0 0 := by
                unfold isNilS at hns
                split at hns
                · exact hs.v_eq
                · simp at hns
              subst hvs
              exact Pur.eff ⟨_, room none 0 0 0 [] w rfl rfl rfl (by omega) rfl, V_v _, rfl, rfl⟩ hR
            · split at h
              · rename_i id e n _
                obtain rfl := get_one h
                cases hs with
                | base h0' => cases h0'
                | @hs _ _ _ cap L hL hr hnc he hxx hcc =>
                  refine Pur.eff ⟨_, room (some ⟨L.b, L.base + e * L.sz, none⟩) n cap 0 [] w rfl rfl rfl (by omega) (by simp [storeCells]), ?_, rfl, rfl⟩ hR
                  exact .hs hL hr hnc he hxx hcc
                | hsnil A hL he hn0 =>
                  subst hn0
                  refine Pur.eff ⟨_, room A 0 0 0 [] w rfl rfl rfl (by omega) (by cases A <;> simp [storeCells]), ?_, rfl, rfl⟩ hR
                  exact .hsnil A hL he rfl
              · simp [Tree.get] at h
          · -- something is
            split at h
            · rename_i k g hsrc
              split at h
              · rename_i hsrcsz
                obtain ⟨hlen, hcells⟩ := source_ok hsrc hsrcsz hx hR
                have hlenAll : ∀ w', (Builtin.lenOf vx).run P w' = .ok k w' := by
                  intro w'
                  revert hlen
                  cases vx <;> simp [Builtin.lenOf]
                obtain ⟨ys, hysAll, hS⟩ := hcells k (Nat.le_refl k)
                have hys := hysAll w rfl
                -- a new row behind an empty slice
                have empty : ∀ (A : Option Addr) (k' : Nat) (g' : Nat → List AV), vs = .slice A 0 0 → k' = k → Src σ ys sz k' g' → roomOk bytes k = true → φ nb = none → ∀ (upd : List (Nat × Option Blk)),
                    R κ σ φ (updGs get upd) w → Eff P κ σ φ nb get w (Builtin.append_ ts rt #[vs, vx]) { val := .hs nb 0 k', upd := upd, new := [.arr sz k' g'] } := by
                  intro A k' g' hvs hkk hS' hroom hnb upd hRu
                  subst hvs
                  subst hkk
                  by_cases hk0 : k' = 0
                  · subst hk0
                    have hl0 : ys = [] := List.eq_nil_of_length_eq_zero (by have := hS'.1; omega)
                    subst hl0
                    refine ⟨_, w, fresh φ nb ⟨0, 0, sz, 0, 0, true⟩, room A 0 0 0 [] w rfl hlen hys (by omega) (by cases A <;> simp [storeCells]), fresh_le hnb _,
                      fun j hj hjj => fresh_none (m := 0) hj (by simpa using hjj), .hsnil (L := ⟨0, 0, sz, 0, 0, true⟩) A fresh_at (Nat.le_refl 0) rfl, ?_⟩
                    exact hRu.virtual hnb rfl _ (fun b' hb' => by simp at hb'; subst hb'; exact hS'.2.1) (fun _ _ _ h' => by cases h'; rfl)
                  · obtain ⟨nc, rest, w', h2, h3, h4, h5, h6, h7, h8⟩ := run_append_new (P := P) (w := w) (rt := rt) (base := A) (sLen := 0) (sCap := 0) (old := []) h0 h1 hu hsz hby (hzr' w) hzr' htu hni' (by simpa using hroom) hlenAll (by omega)
                      (fun w' _ => by cases A <;> simp [Builtin.firstCells, loadCells, loadCellsFrom]) hysAll
                    simp only [Nat.zero_add] at h2 h3 h4 h5
                    have h5' : w'.heap = w.heap.push (.cells (ys.toArray ++ rest) elem) := by simpa using h5
                    refine ⟨_, w', fresh φ nb ⟨w.heap.size, 0, sz, (ys.toArray ++ rest).size, k', false⟩, h4, fresh_le hnb _, fun j hj hjj => fresh_none (m := 0) hj (by simpa using hjj), ?_, ?_⟩
                    · have := V.hs (σ := σ) (e := 0) (n := k') (cap := nc) (fresh_at (φ := φ) (nb := nb) (L := ⟨w.heap.size, 0, sz, (ys.toArray ++ rest).size, k', false⟩)) rfl h2 (by simp) (by simpa using h2) (by
                        have hyl := hS'.1
                        rw [hzsz] at h3
                        simp only [Array.size_append, List.size_toArray, Nat.zero_mul, Nat.zero_add]
                        rw [h3, hyl, ← Nat.add_mul]
                        exact Nat.le_of_eq (congrArg (· * sz) (by omega)))
                      simpa using this
                    · exact hRu.new hnb h5' rfl h6 h7 h8 (fun φ' hle => blk_new h5' ⟨fun o _ => by simp, Nat.le_refl _⟩ hS') hS'.2.1 (fun _ _ _ h' => by cases h'; rfl)
                split at h
                · rename_i hns
                  obtain ⟨hroom, h⟩ := get_chk h
                  simp only [Tree.get, Option.some.injEq] at h
                  subst h
                  have hvs : vs = .slice none 0 0 := by
                    unfold isNilS at hns
                    split at hns
                    · exact hs.v_eq
                    · simp at hns
                  exact empty none k g hvs rfl hS hroom (hn nb (Nat.le_refl _) (by simp)) [] hR
                · split at h
                  · rename_i id e n _
                    split at h
                    · rename_i sz' N f hg
                      split at h
                      · rename_i hsz'
                        subst hsz'
                        split at h
                        · -- in place, for sure
                          split at h
                          case isFalse => simp [Tree.get] at h
                          rename_i hsame
                          obtain ⟨hle, h⟩ := get_chk h
                          simp only [decide_eq_true_eq] at hle
                          simp only [Tree.get, Option.some.injEq] at h
                          subst h
                          have hwf := hR.wf id _ hg
                          cases hs with
                          | base h0' => cases h0'
                          | @hs _ _ _ cap L hL hr hnc he hxx hcc =>
                            obtain ⟨c, hrow, hcs, hsL, hNL, hbd, hc⟩ := own_src hR hg hL hr he
                            subst hsL; subst hNL
                            have hk : n + k ≤ cap := by omega
                            have hyl := hS.1
                            have hmul : (e + n + k) * L.sz ≤ L.n * L.sz := Nat.mul_le_mul_right _ hle
                            rw [Nat.add_mul, Nat.add_mul] at hmul
                            have hfit : L.base + e * L.sz + n * L.sz + ys.length ≤ c.size := by omega
                            have hst := run_storeCells (P := P) (a := (⟨L.b, L.base + e * L.sz, none⟩ : Addr).add (n * L.sz)) (by rw [Addr.add_none rfl]) ys hS.2.2.1 0 w c (by rw [Addr.add_none rfl]; exact hrow)
                              (by rw [Addr.add_none rfl]; simpa using hfit)
                            rw [Addr.add_none rfl] at hst
                            simp only [Nat.add_zero] at hst
                            have hrm := room (some ⟨L.b, L.base + e * L.sz, none⟩) n cap k ys (putRow w L.b (splice c (L.base + e * L.sz + n * L.sz) ys)) rfl hlen hys hk (by
                              show (storeCells ((⟨L.b, L.base + e * L.sz, none⟩ : Addr).add (n * L.sz)) ys).run P w = _
                              rw [Addr.add_none rfl]; exact hst)
                            refine ⟨_, _, φ, hrm, Places.le_refl φ, fun j hj _ => hj, .hs hL hr hk (by omega) hxx hcc, ?_⟩
                            refine hR.write hL hr (by simp [hg]) (fun b' hb' => putRow_other hb') putRow_size rfl rfl rfl ?_ (fun blk hblk => by
                              simp at hblk; subst hblk; intro j; rw [mixL_len (by rw [hwf, hS.2.1]), hS.2.1]) (fun _ _ _ h' => by cases h'; rfl)
                            intro blk hblk
                            simp only [Option.some.injEq] at hblk
                            subst hblk
                            refine ⟨rfl, rfl, _, row_put hrow (splice_size _ _ _), by rw [splice_size]; exact hcs, by rw [splice_size]; exact hbd, fun j hj => ⟨by rw [mixL_len (by rw [hwf, hS.2.1]), hS.2.1], fun i x hx => ?_⟩⟩
                            obtain ⟨a, b, ha, hb, rfl⟩ := mixL_get hx
                            have hi : i < L.sz := by have := (List.getElem?_eq_some_iff.1 ha).1; rw [hS.2.1] at this; exact this
                            rw [splice_get _ _ _ _ hfit]
                            by_cases hin : e + n ≤ j ∧ j < e + n + k
                            · obtain ⟨y, hy, hv⟩ := hS.2.2.2 (j - (e + n)) (by omega) i a ha
                              have h1' : (e + n) * L.sz ≤ j * L.sz := Nat.mul_le_mul_right _ hin.1
                              have h2' : (j + 1) * L.sz ≤ (e + n + k) * L.sz := Nat.mul_le_mul_right _ hin.2
                              rw [Nat.succ_mul, Nat.add_mul, Nat.add_mul] at h2'
                              rw [Nat.add_mul] at h1'
                              rw [if_pos (by omega)]
                              refine ⟨y, ?_, hS.2.2.1 y (List.mem_of_getElem? hy), mix_ok0 (by simp only [decide_eq_true hin.1, decide_eq_true hin.2]; exact hv)⟩
                              rw [← hy]; congr 1; rw [Nat.sub_mul, Nat.add_mul]; omega
                            · obtain ⟨y, hy, ho, hv⟩ := hc j hj i b hb
                              have hout : ¬ (L.base + e * L.sz + n * L.sz ≤ L.base + j * L.sz + i ∧ L.base + j * L.sz + i < L.base + e * L.sz + n * L.sz + ys.length) := by
                                by_cases hlt : j < e + n
                                · have : (j + 1) * L.sz ≤ (e + n) * L.sz := Nat.mul_le_mul_right _ hlt
                                  rw [Nat.succ_mul, Nat.add_mul] at this; omega
                                · have : (e + n + k) * L.sz ≤ j * L.sz := Nat.mul_le_mul_right _ (by omega)
                                  rw [Nat.add_mul, Nat.add_mul] at this; omega
                              rw [if_neg hout]
                              refine ⟨y, hy, ho, mix_ok0 ?_⟩
                              have : (decide (e + n ≤ j) && decide (j < e + n + k)) = false := by simp; omega
                              rw [this]; exact hv
                          | hsnil A hL he0 hn0 =>
                            subst hn0
                            -- what is appended lies in the same block: it is empty
                            have hk0 : k = 0 := by
                              unfold sameBlk at hsame
                              split at hsame
                              · rename_i j e2 n2
                                have hj := Nat.eq_of_beq_eq_true hsame
                                subst hj
                                simp only [source, hg, Option.some.injEq, Prod.mk.injEq] at hsrc
                                cases hx with
                                | base h0' => cases h0'
                                | hs hL2 hr2 hn2 he2 hx2 hc2 =>
                                  rw [hL] at hL2
                                  have := Option.some.inj hL2
                                  subst this
                                  obtain ⟨e1, e2', _⟩ := hR.obj _ _ _ hg hL hr2
                                  omega
                                | hsnil A' hL2 he2 hn2 => omega
                              · simp at hsame
                            subst hk0
                            have hl0 : ys = [] := List.eq_nil_of_length_eq_zero (by have := hS.1; omega)
                            subst hl0
                            refine ⟨_, w, φ, room A 0 0 0 [] w rfl hlen hys (by omega) (by cases A <;> simp [storeCells]), Places.le_refl φ, fun j hj _ => hj, .hsnil A hL he0 rfl, ?_⟩
                            refine hR.weak hg (fun K hK => ?_) (fun j => by rw [mixL_len (by rw [hwf, hS.2.1]), hS.2.1]) (fun _ _ _ h' => by cases h'; exact ⟨_, _, rfl⟩)
                            obtain ⟨k1, k2, c, hrow, hcs, hbd, hc⟩ := hK
                            refine ⟨k1, k2, c, hrow, hcs, hbd, fun j hj => ⟨by rw [mixL_len (by rw [hwf, hS.2.1]), hS.2.1], fun i x hx => ?_⟩⟩
                            obtain ⟨a, b, ha, hb, rfl⟩ := mixL_get hx
                            obtain ⟨y, hy, ho, hv⟩ := (hc j hj).2 i b hb
                            refine ⟨y, hy, ho, mix_ok0 ?_⟩
                            have : (decide (e + 0 ≤ j) && decide (j < e + 0 + 0)) = false := by simp
                            rw [this]; exact hv
                        · obtain ⟨hroom, h⟩ := get_chk h
                          simp only [Tree.get, Option.some.injEq] at h
                          subst h
                          have hnb := hn nb (Nat.le_refl _) (by simp)
                          have hwf := hR.wf id _ hg
                          have hwf' : ∀ j, (mixL (decide (j < n)) (f (e + j)) (g (j - n))).length = sz' := fun j => by rw [mixL_len (by rw [hwf, hS.2.1]), hwf]
                          cases hs with
                          | base h0' => cases h0'
                          | @hs _ _ _ cap L hL hr hnc he hxx hcc =>
                            by_cases hk : n + k ≤ cap
                            · obtain ⟨c, hrow, hcs, hsL, hfit, hblk⟩ := own_append hR hg hL hr he hcc hk hS
                              subst hsL
                              have hone := hS.2.2.1
                              have hst := run_storeCells (P := P) (a := (⟨L.b, L.base + e * L.sz, none⟩ : Addr).add (n * L.sz)) (by rw [Addr.add_none rfl]) ys hone 0 w c (by rw [Addr.add_none rfl]; exact hrow)
                                (by rw [Addr.add_none rfl]; simpa using hfit)
                              rw [Addr.add_none rfl] at hst
                              simp only [Nat.add_zero] at hst
                              have hbase : L.base ≤ L.size := by omega
                              have hrm := room (some ⟨L.b, L.base + e * L.sz, none⟩) n cap k ys (putRow w L.b (splice c (L.base + e * L.sz + n * L.sz) ys)) rfl hlen hys hk (by
                                show (storeCells ((⟨L.b, L.base + e * L.sz, none⟩ : Addr).add (n * L.sz)) ys).run P w = _
                                rw [Addr.add_none rfl]; exact hst)
                              refine ⟨_, _, fresh φ nb ⟨L.b, L.base + e * L.sz, L.sz, L.size, n + k, false⟩, hrm, fresh_le hnb _,
                                fun j hj hjj => fresh_none (m := 0) hj (by simpa using hjj), ?_, ?_⟩
                              · have := V.hs (σ := σ) (e := 0) (n := n + k) (cap := cap) (fresh_at (φ := φ) (nb := nb) (L := ⟨L.b, L.base + e * L.sz, L.sz, L.size, n + k, false⟩)) rfl hk (by simp) (by simpa using hk) (by simpa using hcc)
                                simpa using this
                              · exact hR.moveW hL hr (by simp [hg]) hnb rfl (row_put hrow (splice_size _ _ _)) (by rw [splice_size]; exact hcs) hbase (fun b' hb' => putRow_other hb') putRow_size rfl rfl rfl
                                  (fun φ' _ => hblk (Store.le_refl σ)) hwf' (fun _ _ _ h' => by cases h'; rfl)
                            · -- a new row
                              have hsrc0 : source get (.hs id e n) = some (n, fun j => f (e + j)) := by simp [source, hg]
                              have hsz0 : srcSz get (.hs id e n) = some sz' := by simp [srcSz, hg]
                              obtain ⟨_, hold⟩ := source_ok (P := P) hsrc0 hsz0 (.hs hL hr hnc he hxx hcc) hR
                              obtain ⟨old, hold, hSo⟩ := hold n (Nat.le_refl n)
                              obtain ⟨nc, rest, w', h2, h3, h4, h5, h6, h7, h8⟩ := run_append_new (P := P) (w := w) (rt := rt) (base := some ⟨L.b, L.base + e * L.sz, none⟩) (sLen := n) (sCap := cap) (old := old) h0 h1 hu hsz hby (hzr' w) hzr' htu hni' hroom hlenAll (by omega)
                                (fun w' hw' => by have := hold w' hw'; exact this) hysAll
                              have hSS := src_append hSo hS
                              have h5' : w'.heap = w.heap.push (.cells ((old ++ ys).toArray ++ rest) elem) := by simpa using h5
                              have hRd : R κ σ φ (updG get id none) w := hR.drop fun i b hb => by
                                by_cases e : i = id
                                · simp [updG, e] at hb
                                · simpa [updG, e] using hb
                              refine ⟨_, w', fresh φ nb ⟨w.heap.size, 0, sz', ((old ++ ys).toArray ++ rest).size, n + k, false⟩, h4, fresh_le hnb _, fun j hj hjj => fresh_none (m := 0) hj (by simpa using hjj), ?_, ?_⟩
                              · have := V.hs (σ := σ) (e := 0) (n := n + k) (cap := nc) (fresh_at (φ := φ) (nb := nb) (L := ⟨w.heap.size, 0, sz', ((old ++ ys).toArray ++ rest).size, n + k, false⟩)) rfl h2 (by simp) (by simpa using h2) (by
                                  have hyl := hSS.1
                                  rw [hzsz] at h3
                                  simp only [Array.size_append, List.size_toArray, Nat.zero_mul, Nat.zero_add]
                                  rw [h3, hyl, ← Nat.add_mul]
                                  exact Nat.le_of_eq (congrArg (· * sz') (by omega)))
                                simpa using this
                              · exact hRd.new hnb h5' rfl h6 h7 h8 (fun φ' hle => blk_new h5' ⟨fun o _ => by simp, Nat.le_refl _⟩ hSS) hSS.2.1 (fun _ _ _ h' => by cases h'; rfl)
                          | hsnil A _ _ hn0 =>
                            subst hn0
                            have hS0 : Src σ ([] : List Value) sz' 0 (fun j => f (e + j)) := ⟨by simp, fun j => hwf _, by simp, fun j hj => by omega⟩
                            have hSS := src_append hS0 hS
                            exact empty A (0 + k) _ rfl (Nat.zero_add k) (by simpa using hSS) (by simpa using hroom) hnb [(id, none)] (hR.drop fun i b hb => by
                              by_cases e : i = id
                              · simp [updGs, updG, e] at hb
                              · simpa [updGs, updG, e] using hb)
                      · simp [Tree.get] at h
                    · simp [Tree.get] at h
                  · simp [Tree.get] at h
              · simp [Tree.get] at h
            · simp [Tree.get] at h
      · simp [Tree.get] at h
    · simp [Tree.get] at h
  · simp [Tree.get] at h
end
end Go.Eng
