/- TxParses holds at every input: the tables unicode/utf8.first and unicode/utf8.acceptRanges as the program lays them (tied). -/
import Derived.Test.YtmjbindplgpjjaaDoorPart5
import Derived.Test.YtmjbindplgpjjaaDoorRows
import Derived.Test.YtmjbindplgpjjaaDoorTie
import Derived.Test.YtmjbindplgpjjaaDoorCards
import Derived.ProofKit
import Derived.LaidMore
import Derived.OpenShut
import Derived.Stop.Joined
import Derived.SevenTiedAt
import Derived.Lib.LaidU8T
import Derived.Lay
/- A slice of elements that hold slices, as an argument. -/
namespace Go.Eng
open Go Go.ChangeShapes
set_option linter.unusedSimpArgs false
set_option linter.unusedVariables false
section
variable {H : Type} {enc : TypeId × Value → H} {P : Program} {w : World} {base : Nat} {sp : Nat → Bool} {held : Bool}
theorem trod_sl {α : Type} [Inhabited α] (c : α → List AV) {sz : Nat} (E : α → List Value → Prop) {e : TypeId} (hz : 0 < sz) (hc : P.cellsOf e = sz) (hm : mkd (c default) = false) (hcl : ∀ a, (c a).length = sz)
    (hE : ∀ fuel cs x, DataW.trod enc P w base sp held fuel e cs = some x → ∃ a, E a cs)
    (hV : ∀ a cs, E a cs → ∀ (j : Nat) (x : AV) (y : Value), (c a)[j]? = some x → cs[j]? = some y → V0 (σof w) x y ∧ y.oneCell' = true)
    {t : TypeId} {fuel : Nat} {cs : List Value} {x : DataW H × List MemPlace} (ht : P.underlying t = some (.slice e)) (h : DataW.trod enc P w base sp held fuel t cs = some x) :
    ∃ (v : Value) (l : List α), cs = [v] ∧ V0 (σof w) (.sl sz l.length (lsF c l)) v ∧ v.oneCell' = true ∧ ∀ i, i < l.length → ∃ vs, E (l.getD i default) vs := by
  have hd : ∀ e, (lsF c ([] : List α) e).length = sz := fun e => hcl _
  rcases DataW.trod_slice ht h with ⟨rfl, _⟩ | ⟨a, len, cap, elems, rest, n, _, rfl, _, hb, hl, hmx, hlen, hel, _, _⟩
  · exact ⟨_, [], rfl, .slnil sz 0 _ none 0 hd rfl (fun _ => hm), rfl, fun i hi => absurd hi (Nat.not_lt_zero _)⟩
  by_cases h0 : len = 0
  · subst h0
    exact ⟨_, [], rfl, .slnil sz 0 _ (some a) cap hd rfl (fun e => by cases e), rfl, fun i hi => absurd hi (Nat.not_lt_zero _)⟩
  have got : ∀ i, i < len → ∃ cs, w.cells? base (a.add (i * P.cellsOf e)) (P.cellsOf e) = some cs ∧ ∃ x, DataW.trod enc P w base sp held n e cs = some x := by
    intro i hi
    have h2 := hel i hi
    rw [List.getElem?_eq_getElem (by omega), Option.bind_eq_some_iff] at h2
    obtain ⟨cs, h3, h4⟩ := h2
    exact ⟨cs, h3, _, h4⟩
  have hsp : a.spot = none := by
    obtain ⟨cs, h3, _⟩ := got 0 (by omega)
    obtain ⟨_, h4, h5⟩ := World.cells?_some h3
    have h6 := h5 0 (by omega)
    rw [Nat.zero_mul] at h6
    have e1 : (a.add 0).add 0 = a := by unfold Addr.add; simp
    rw [e1, List.getElem?_eq_getElem (by omega)] at h6
    unfold World.cell? at h6
    split at h6
    · split at h6
      · cases h6
      · rename_i hs
        cases hsx : a.spot with
        | none => rfl
        | some _ => rw [hsx] at hs; simp at hs
    · cases h6
  have each : ∀ i, i < len → ∃ u : α, ∃ vs, E u vs ∧ vs.length = sz ∧ ∀ (j : Nat) (y : Value), vs[j]? = some y → σof w a.block (a.off + i * sz + j) = some y := by
    intro i hi
    obtain ⟨cs, h3, x, h4⟩ := got i hi
    obtain ⟨u, hu⟩ := hE n cs x h4
    obtain ⟨_, k1, k2⟩ := World.cells?_some h3
    refine ⟨u, cs, hu, by rw [k1, hc], fun j y hj => ?_⟩
    have hjl : j < sz := by have := (List.getElem?_eq_some_iff.1 hj).1; rw [k1, hc] at this; exact this
    have h5 := k2 j (by rw [hc]; exact hjl)
    rw [hj] at h5
    have e2 : (a.add (i * P.cellsOf e)).add j = ⟨a.block, a.off + i * sz + j, none⟩ := by
      rw [hc]
      unfold Addr.add
      obtain ⟨ab, ao, asp⟩ := a
      simp only at hsp
      subst hsp
      by_cases h0 : i * sz = 0
      · by_cases h1 : j = 0
        · simp [h0, h1]
        · simp [h0, h1]
      · by_cases h1 : j = 0
        · simp [h0, h1]
        · simp [h0, h1]
    rw [e2] at h5
    exact σof_of h5
  let g : Nat → α := fun i => if h : i < len then (each i h).choose else default
  have hg : ∀ i, i < len → ((List.range len).map g).getD i default = g i := fun i hi => by
    rw [List.getD_eq_getElem?_getD, List.getElem?_map, List.getElem?_range hi]; rfl
  have spec : ∀ i (hi : i < len), ∃ vs, E (g i) vs ∧ vs.length = sz ∧ ∀ (j : Nat) (y : Value), vs[j]? = some y → σof w a.block (a.off + i * sz + j) = some y := fun i hi => by
    show ∃ vs, E (if h : i < len then (each i h).choose else default) vs ∧ _
    rw [dif_pos hi]
    exact (each i hi).choose_spec
  refine ⟨_, (List.range len).map g, rfl, ?_, rfl, fun i hi => ?_⟩
  · have hln : ((List.range len).map g).length = len := by simp
    rw [hln]
    have at' : ∀ (e j : Nat) (x : AV), e < len → (lsF c ((List.range len).map g) e)[j]? = some x → ∃ y, σof w a.block (a.off + e * sz + j) = some y ∧ V0 (σof w) x y ∧ y.oneCell' = true := by
      intro e j x he hj
      rw [lsF_at, hg e he] at hj
      obtain ⟨vs, k1, k2, k3⟩ := spec e he
      have hjl : j < sz := by have := (List.getElem?_eq_some_iff.1 hj).1; rw [hcl] at this; exact this
      have hy : vs[j]? = some vs[j] := List.getElem?_eq_getElem (by omega)
      obtain ⟨k4, k5⟩ := hV _ _ k1 j x _ hj hy
      exact ⟨_, k3 j _ hy, k4, k5⟩
    have hval : ∀ (e j : Nat) (x : AV) (he : e < len) (hj : (lsF c ((List.range len).map g) e)[j]? = some x), σof w a.block (a.off + e * sz + j) = some ((σof w a.block (a.off + e * sz + j)).getD (.bool false)) ∧ V0 (σof w) x ((σof w a.block (a.off + e * sz + j)).getD (.bool false)) ∧ ((σof w a.block (a.off + e * sz + j)).getD (.bool false)).oneCell' = true := by
      intro e j x he hj
      obtain ⟨y, h1, h2, h3⟩ := at' e j x he hj
      rw [h1]
      exact ⟨rfl, h2, h3⟩
    exact .sl sz len _ a cap (fun e j => (σof w a.block (a.off + e * sz + j)).getD (.bool false)) hsp hl (fun i => hcl _) (fun e j x he hj => (hval e j x he hj).1) (fun e j x he hj => (hval e j x he hj).2.2) (fun e j x he hj => (hval e j x he hj).2.1)
  · have hi' : i < len := by simpa using hi
    rw [hg i hi']
    obtain ⟨vs, k1, _⟩ := spec i hi'
    exact ⟨vs, k1⟩
/-- elements whose cells are all scalars -/
theorem flatE_V {α : Type} {cells : α → List Value} {c : α → List AV} {ks : List Cel} (hc0 : ∀ a, (cells a).map AV.v = c a) {σ : Store} (a : α) (cs : List Value) (h : cs = cells a ∧ GoodVs ks cs) (j : Nat) (x : AV) (y : Value) (hx : (c a)[j]? = some x) (hy : cs[j]? = some y) : V0 σ x y ∧ y.oneCell' = true := by
  obtain ⟨rfl, hg⟩ := h
  rw [← hc0, List.getElem?_map, hy] at hx
  simp only [Option.map_some, Option.some.injEq] at hx
  subst hx
  obtain ⟨k, hk⟩ := hg.at j y hy
  exact ⟨.v _, goodV_one hk⟩
/-- the pieces of a struct of three fields -/
theorem trod_three {fuel : Nat} {t : TypeId} {fs : Array Field} {f0 f1 f2 : Field} {cs : List Value} {x : DataW H × List MemPlace} {n0 n1 n2 : Nat} (hu : P.underlying t = some (.struct fs)) (hfs : fs.toList = [f0, f1, f2])
    (h0 : f0.offset = 0) (h1 : f1.offset = n0) (h2 : f2.offset = n0 + n1) (s0 : P.cellsOf f0.type = n0) (s1 : P.cellsOf f1.type = n1) (s2 : P.cellsOf f2.type = n2) (st : P.cellsOf t = n0 + n1 + n2)
    (h : DataW.trod enc P w base sp held fuel t cs = some x) :
    ∃ p0 p1 p2 fu y0 y1 y2, cs = p0 ++ p1 ++ p2 ∧ DataW.trod enc P w base sp held fu f0.type p0 = some y0 ∧ DataW.trod enc P w base sp held fu f1.type p1 = some y1 ∧ DataW.trod enc P w base sp held fu f2.type p2 = some y2 := by
  cases fuel with
  | zero => simp [DataW.trod] at h
  | succ fu =>
    obtain ⟨hl, r, hr⟩ := trod_struct hu h
    rw [hfs] at hr
    obtain ⟨y0, r0, k0, hr, _⟩ := mapM_head hr
    obtain ⟨y1, r1, k1, hr, _⟩ := mapM_head hr
    obtain ⟨y2, r2, k2, hr, _⟩ := mapM_head hr
    rw [h0, s0, List.drop_zero] at k0
    rw [h1, s1] at k1
    rw [h2, s2] at k2
    refine ⟨_, _, _, fu, y0, y1, y2, ?_, k0, k1, k2⟩
    rw [List.append_assoc, ← List.drop_drop]
    have e2 : List.take n2 (List.drop n1 (List.drop n0 cs)) = List.drop n1 (List.drop n0 cs) := List.take_of_length_le (by simp; omega)
    rw [e2, List.take_append_drop, List.take_append_drop]
end
end Go.Eng

/- Lists: one is set, the end is cleared. -/
namespace Go.Eng
open Go
set_option linter.unusedSimpArgs false
set_option linter.unusedVariables false
set_option linter.unusedSectionVars false
section
variable {α : Type} [Inhabited α] {c : α → List AV} {sz : Nat}
theorem getD_setI {L : List α} {i j : Nat} {t : α} (hi : i < L.length) : (L.set i t).getD j default = if j = i then t else L.getD j default := by
  rw [List.getD_eq_getElem?_getD, List.getElem?_set]
  by_cases h : i = j
  · subst h; simp [hi]
  · have h' : ¬ j = i := fun e => h e.symm
    rw [if_neg h, if_neg h', List.getD_eq_getElem?_getD]
theorem Cod.set (h : Cod c sz) (L : List α) {i N : Nat} (t : α) (hi : i < L.length) (hN : N = L.length) :
    OLe (some (.arr sz N fun k => mixL (Nat.beq k i) (c t) (lsF c L k))) (some (.arr sz (L.set i t).length (lsF c (L.set i t)))) := by
  refine h.row (by simp [hN]) fun e he => ?_
  simp only [lsF_at, h.mix]
  refine congrArg c ?_
  rw [getD_setI hi]
  by_cases hk : e = i
  · subst hk; simp
  · have : Nat.beq e i = false := by
      cases hb : Nat.beq e i with
      | false => rfl
      | true => exact absurd (Nat.eq_of_beq_eq_true hb) hk
    rw [this, if_neg hk]; rfl
/-- what stands from a place on up to another one is cleared -/
theorem Cod.clr (h : Cod c sz) (L : List α) (z : α) {i n N m : Nat} (hN : N = L.length) (hn : n ≤ L.length) (hi : i ≤ n) (hm : m = n - i) :
    OLe (some (.arr sz N fun k => mixL (decide (i ≤ k) && decide (k < i + m)) (c z) (lsF c L k))) (some (.arr sz (L.take i ++ (List.replicate (n - i) z ++ L.drop n)).length (lsF c (L.take i ++ (List.replicate (n - i) z ++ L.drop n))))) := by
  refine h.row (by simp [hN]; omega) fun e he => ?_
  simp only [lsF_at, h.mix]
  refine congrArg c ?_
  have hti : (L.take i).length = i := by simp; omega
  rw [cond_eq_ite]
  simp only [Bool.and_eq_true, decide_eq_true_eq]
  by_cases h1 : e < i
  · rw [if_neg (by omega), getD_app (by omega), List.getD_eq_getElem?_getD, List.getD_eq_getElem?_getD, List.getElem?_take, if_pos h1]
  · rw [getD_app' (by omega), hti]
    by_cases h2 : e < n
    · rw [if_pos (by omega), getD_app (by simp; omega), List.getD_eq_getElem?_getD, List.getElem?_replicate, if_pos (by omega)]; rfl
    · rw [if_neg (by omega), getD_app' (by simp; omega), List.length_replicate, List.getD_eq_getElem?_getD, List.getD_eq_getElem?_getD, List.getElem?_drop]
      congr 2; omega
/-- where the first one of a kind stands -/
def fD (p : α → Bool) : List α → Nat
  | [] => 0
  | t :: l => bif p t then 0 else fD p l + 1
theorem fD_le (p : α → Bool) : ∀ l : List α, fD p l ≤ l.length
  | [] => Nat.le_refl _
  | t :: l => by
    rw [fD]
    have := fD_le p l
    cases p t <;> simp <;> omega
theorem fD_filter (p : α → Bool) : ∀ l : List α, l.take (fD p l) = (l.take (fD p l)).filter (fun t => !p t)
  | [] => rfl
  | t :: l => by
    rw [fD]
    cases h : p t with
    | true => rfl
    | false =>
      simp only [cond_false, List.take_succ_cons, List.filter_cons, h, Bool.not_false, if_true]
      rw [← fD_filter p l]
theorem fD_at (p : α → Bool) : ∀ l : List α, fD p l < l.length → p (l.getD (fD p l) default) = true
  | [], h => absurd h (Nat.not_lt_zero _)
  | t :: l, h => by
    rw [fD] at h ⊢
    cases hp : p t with
    | true => rw [cond_true]; exact hp
    | false =>
      rw [hp, cond_false, List.length_cons] at h
      rw [cond_false]
      exact fD_at p l (by omega)
/-- slices.DeleteFunc's loop -/
def dRun (p : α → Bool) : List α → Nat → List α → Nat × List α
  | [], i, L => (i, L)
  | t :: r, i, L => bif p t then dRun p r i L else dRun p r (i + 1) (L.set i t)
theorem dRun_ok (p : α → Bool) : ∀ (r : List α) (i j : Nat) (L : List α), i ≤ j → j + r.length ≤ L.length →
    (dRun p r i L).1 = i + (r.filter fun t => !p t).length ∧ (dRun p r i L).2.length = L.length ∧ (dRun p r i L).2.take (dRun p r i L).1 = L.take i ++ r.filter (fun t => !p t) ∧ (dRun p r i L).2.drop (j + r.length) = L.drop (j + r.length)
  | [], i, j, L, h1, h2 => by simp [dRun]
  | t :: r, i, j, L, h1, h2 => by
    rw [List.length_cons] at h2 ⊢
    rw [dRun]
    cases h : p t with
    | true =>
      rw [cond_true, List.filter_cons_of_neg (by simp [h])]
      obtain ⟨k1, k2, k3, k4⟩ := dRun_ok p r i (j + 1) L (by omega) (by omega)
      refine ⟨k1, k2, k3, ?_⟩
      rw [show j + (r.length + 1) = j + 1 + r.length by omega]; exact k4
    | false =>
      rw [cond_false, List.filter_cons_of_pos (by simp [h])]
      obtain ⟨k1, k2, k3, k4⟩ := dRun_ok p r (i + 1) (j + 1) (L.set i t) (by omega) (by simp; omega)
      refine ⟨by rw [k1, List.length_cons]; omega, by rw [k2, List.length_set], ?_, ?_⟩
      · rw [k3]
        have : (L.set i t).take (i + 1) = L.take i ++ [t] := by
          rw [List.take_add_one, List.take_set_of_le (Nat.le_refl _)]
          simp [show i < L.length by omega]
        rw [this, List.append_assoc]; rfl
      · rw [show j + (r.length + 1) = j + 1 + r.length by omega, k4, List.drop_set_of_lt (by omega)]
end
end Go.Eng

/- transactions: words. -/
namespace Go.Eng.TA
open Go Go.Eng Go.Eng.M Go.Lib Go.Proofs
set_option linter.unusedSimpArgs false
set_option linter.unusedVariables false
/-- the next space from p on, or the end -/
def spF (s : ByteArray) : Nat → Nat → Nat
  | 0, p => p
  | k + 1, p => if bN s p = 32 then p else spF s k (p + 1)
def spA (s : ByteArray) (p : Nat) : Nat := spF s (s.size - p) p
theorem sp_end {s : ByteArray} {p : Nat} (h : s.size ≤ p) : spA s p = p := by
  unfold spA; rw [show s.size - p = 0 by omega]; rfl
theorem sp_here {s : ByteArray} {p : Nat} (h : p < s.size) (hb : bN s p = 32) : spA s p = p := by
  unfold spA; rw [show s.size - p = (s.size - (p + 1)) + 1 by omega, spF, if_pos hb]
theorem sp_next {s : ByteArray} {p : Nat} (h : p < s.size) (hb : ¬ bN s p = 32) : spA s p = spA s (p + 1) := by
  unfold spA; rw [show s.size - p = (s.size - (p + 1)) + 1 by omega, spF, if_neg hb]
theorem sp_ge {s : ByteArray} : ∀ (k p : Nat), p ≤ spF s k p ∧ spF s k p ≤ p + k := by
  intro k
  induction k with
  | zero => intro p; exact ⟨Nat.le_refl _, Nat.le_refl _⟩
  | succ k ih =>
    intro p
    rw [spF]
    split
    · omega
    · have := ih (p + 1); omega
theorem sp_le {s : ByteArray} {p : Nat} (h : p ≤ s.size) : p ≤ spA s p ∧ spA s p ≤ s.size := by
  have := sp_ge (s := s) (s.size - p) p
  unfold spA; omega
/-- behind a whole rune that is no space -/
theorem sp_rune {s : ByteArray} {p : Nat} (h : p < s.size) (hc : (Utf8.decode s p).1 ≠ 32) : spA s p = spA s (p + (Utf8.decode s p).2) := by
  have hne : ¬ bN s p = 32 := fun e => hc (by rw [dec_asc (by omega), e])
  have h1 : ∀ j, 1 ≤ j → j < (Utf8.decode s p).2 → ¬ bN s (p + j) = 32 ∧ p + j < s.size := by
    have hle := dec_le h
    intro j a b
    refine ⟨?_, by omega⟩
    rw [decode_bN] at b
    rcases shapeN (s.size - p) (bN s p) (bN s (p + 1)) (bN s (p + 2)) (bN s (p + 3)) with ⟨_, e⟩ | ⟨_, _, k1, _, e⟩ | ⟨_, _, k1, k2, _, _, e⟩ | ⟨_, _, k1, k2, k3, _, _, e⟩ | ⟨e, _⟩ <;> rw [e] at b <;> dsimp only at b
    · omega
    · obtain rfl : j = 1 := by omega
      omega
    · obtain rfl | rfl : j = 1 ∨ j = 2 := by omega
      · omega
      · omega
    · obtain rfl | rfl | rfl : j = 1 ∨ j = 2 ∨ j = 3 := by omega
      · omega
      · omega
      · omega
    · omega
  have h2 : ∀ j, 1 ≤ j → j ≤ (Utf8.decode s p).2 → spA s p = spA s (p + j) := by
    intro j
    induction j with
    | zero => intro a; omega
    | succ j ih =>
      intro a b
      rcases Nat.eq_zero_or_pos j with rfl | hj
      · exact sp_next h hne
      · obtain ⟨k1, k2⟩ := h1 j hj (by omega)
        rw [ih hj (by omega), sp_next k2 k1, Nat.add_assoc]
  exact h2 _ (dec_pos s p) (Nat.le_refl _)
/-! ### the document's word -/
noncomputable abbrev lpWd : Code := loopOf (bodyOf Tryd.f92) 0
def SWd (s : ByteArray) (i : Nat) : List AV × Heap := ([.v (.string s), .v (.int .i64 (i : Int)), .any, .any, .any], [])
theorem rWd (s : ByteArray) (i : Nat) : roundE (P := Tryd.prog) (Γ := Γm) [] Lno false 0 0 lpWd [0, 5, 2, 3, 4] [] 23 (SWd s i).1 (SWd s i).2 =
  Tree.br (decide ((↑i : Int) < (↑(ByteArray.size s) : Int))) (Tree.chk (decide ((0 : Int) ≤ (↑i : Int)) && decide ((↑i : Int) < (↑(ByteArray.size s) : Int))) (Tree.br (decide (sbyte s i = (32
    : Int))) (Tree.chk (decide ((↑(0 : Nat) : Int) ≤ (↑i : Int)) && decide ((↑i : Int) ≤ (↑(ByteArray.size s) : Int)) && (decide ((0 : Int) ≤ IntKind.wrap IntKind.i64 ((↑i : Int) + (1 :
    Int))) && decide (IntKind.wrap IntKind.i64 ((↑i : Int) + (1 : Int)) ≤ (↑(ByteArray.size s) : Int)) && decide ((↑(ByteArray.size s) : Int) ≤ (↑(ByteArray.size s) : Int)))) (Tree.leaf
    (Out.mk AEx.ret [AV.v (Value.string s), AV.v (Value.int IntKind.i64 (↑i : Int)), AV.v (Value.string (ByteArray.extract s (0 : Nat) i)), AV.v (Value.string (ByteArray.extract s (Int.toNat
    (IntKind.wrap IntKind.i64 ((↑i : Int) + (1 : Int)))) (ByteArray.size s))), AV.v (Value.bool true)] []))) (Tree.leaf (Out.mk AEx.normal [AV.v (Value.string s), AV.v (Value.int IntKind.i64
    (IntKind.wrap IntKind.i64 ((↑i : Int) + (1 : Int)))), AV.any, AV.any, AV.any] [])))) (Tree.leaf (Out.mk (AEx.exit (0 : Nat)) [AV.v (Value.string s), AV.v (Value.int IntKind.i64 (↑i :
    Int)), AV.any, AV.any, AV.any] [])) := by kernel_rfl
def retWd (s : ByteArray) (q : Nat) : Out := ⟨.ret, [.any, .any, .v (.string (s.extract 0 q)), .v (.string (s.extract (q + 1) s.size)), .sb true], []⟩
def endWd : Out := ⟨.exit 0, [.any, .any, .any, .any, .any], []⟩
def OWd (s : ByteArray) : Out := if spA s 0 < s.size then retWd s (spA s 0) else endWd
theorem loopWd {s : ByteArray} (hs : s.size ≤ 1000000000) : ∀ i : Nat, (i ≤ s.size ∧ spA s i = spA s 0) → LoopOK Tryd.prog Γm 0 23 lpWd (LSpec.at [0, 5, 2, 3, 4] [] (SWd s i) (OWd s)) := by
  refine loop_at (S := SWd s) (O := fun _ => OWd s) (k := 0) (fun i => s.size - i) fun i hp => .of (noLoops (by kernel_rfl)) (rWd s i) ?_
  obtain ⟨h1, h2⟩ := hp
  have hb : sbyte s i = (bN s i : Int) := rfl
  simp only [hb]
  rcases Nat.lt_or_ge i s.size with hi | hi
  · by_cases hc : bN s i = 32
    · rw [sp_here hi hc] at h2
      have hO : OWd s = retWd s i := by unfold OWd; rw [← h2, if_pos hi]
      rw [hO]
      repeat' (first | refine wC (by first | omega | (simp only [W1, cond_true, cond_false, wrapUpN (show i ≤ 10000000000 by omega)]; first | done | omega)) ?_ | refine wT (by first | omega | (simp only [W1, cond_true, cond_false, wrapUpN (show i ≤ 10000000000 by omega)]; first | done | omega)) ?_ | refine wF (by intro _h; first | omega | (simp only [W1, cond_true, cond_false, wrapUpN (show i ≤ 10000000000 by omega)] at _h; first | done | omega)) ?_ | (refine wS ?_ ?_ <;> intro _h <;> simp only [W1, cond_true, cond_false, wrapUpN (show i ≤ 10000000000 by omega)] at _h))
      all_goals simp only [W1, W2, owesN, owesX, owesR, cond_true, cond_false, wrapUpN (show i ≤ 10000000000 by omega)]
      repeat' (first | apply And.intro | intro _hc)
      all_goals first | exact rfl | exact AV.le_refl _ | exact AV.le_any _ | exact OLe.refl _ | exact OLe.none _ | exact LeH.refl _ | exact LeL.refl _ | exact AV.le.bs _ | exact AV.le.sb _ | omega | contradiction
    · rw [sp_next hi hc] at h2
      repeat' (first | refine wC (by first | omega | (simp only [W1, cond_true, cond_false, wrapUpN (show i ≤ 10000000000 by omega)]; first | done | omega)) ?_ | refine wT (by first | omega | (simp only [W1, cond_true, cond_false, wrapUpN (show i ≤ 10000000000 by omega)]; first | done | omega)) ?_ | refine wF (by intro _h; first | omega | (simp only [W1, cond_true, cond_false, wrapUpN (show i ≤ 10000000000 by omega)] at _h; first | done | omega)) ?_ | (refine wS ?_ ?_ <;> intro _h <;> simp only [W1, cond_true, cond_false, wrapUpN (show i ≤ 10000000000 by omega)] at _h))
      all_goals simp only [W1, W2, owesN, owesX, owesR, cond_true, cond_false, wrapUpN (show i ≤ 10000000000 by omega)]
      repeat' (first | apply And.intro | intro _hc)
      all_goals first | exact ⟨i + 1, LeL.refl _, LeH.refl _, ⟨hi, h2⟩, by omega⟩ | exact AV.le_refl _ | exact AV.le_any _ | exact OLe.refl _ | exact OLe.none _ | exact LeH.refl _ | exact LeL.refl _ | exact AV.le.bs _ | exact AV.le.sb _ | omega | contradiction
  · rw [sp_end hi] at h2
    have hO : OWd s = endWd := by unfold OWd; rw [← h2, if_neg (by omega)]
    rw [hO]
    repeat' (first | refine wC (by first | omega | (simp only [W1, cond_true, cond_false]; first | done | omega)) ?_ | refine wT (by first | omega | (simp only [W1, cond_true, cond_false]; first | done | omega)) ?_ | refine wF (by intro _h; first | omega | (simp only [W1, cond_true, cond_false] at _h; first | done | omega)) ?_ | (refine wS ?_ ?_ <;> intro _h <;> simp only [W1, cond_true, cond_false] at _h))
    all_goals simp only [W1, W2, owesN, owesX, owesR, cond_true, cond_false]
    repeat' (first | apply And.intro | intro _hc)
    all_goals first | exact rfl | exact AV.le_refl _ | exact AV.le_any _ | exact OLe.refl _ | exact OLe.none _ | exact LeH.refl _ | exact LeL.refl _ | exact AV.le.bs _ | exact AV.le.sb _ | omega | contradiction
theorem runWdR (s : ByteArray) (q : Nat) : bodyE (P := Tryd.prog) (Γ := Γm) [] (fun _ => LSpec.at [0, 5, 2, 3, 4] [] (SWd s 0) (retWd s q)) false 23 [.tmp 2, .tmp 3, .tmp 4] (bodyOf Tryd.f92) [.v (.string s)] [] =
  Tree.chk (cl (LeL [AV.v (Value.string s), AV.v (Value.int IntKind.i64 (0 : Int)), AV.v (Value.string (ByteArray.mk #[])), AV.v (Value.string (ByteArray.mk #[])), AV.v (Value.bool false)]
    [AV.v (Value.string s), AV.v (Value.int IntKind.i64 (↑(0 : Nat) : Int)), AV.any, AV.any, AV.any] ∧ LeH [] [])) (Tree.leaf (Ans.mk (AV.tup [AV.v (Value.string (ByteArray.extract s (0 :
    Nat) q)), AV.v (Value.string (ByteArray.extract s (q + (1 : Nat)) (ByteArray.size s))), AV.sb true]) [])) := by kernel_rfl
theorem runWdE (s : ByteArray) : bodyE (P := Tryd.prog) (Γ := Γm) [] (fun _ => LSpec.at [0, 5, 2, 3, 4] [] (SWd s 0) endWd) false 23 [.tmp 2, .tmp 3, .tmp 4] (bodyOf Tryd.f92) [.v (.string s)] [] =
  Tree.chk (cl (LeL [AV.v (Value.string s), AV.v (Value.int IntKind.i64 (0 : Int)), AV.v (Value.string (ByteArray.mk #[])), AV.v (Value.string (ByteArray.mk #[])), AV.v (Value.bool false)]
    [AV.v (Value.string s), AV.v (Value.int IntKind.i64 (↑(0 : Nat) : Int)), AV.any, AV.any, AV.any] ∧ LeH [] [])) (Tree.leaf (Ans.mk (AV.tup [AV.v (Value.string (ByteArray.mk #[])), AV.v
    (Value.string (ByteArray.mk #[])), AV.v (Value.bool false)]) [])) := by kernel_rfl
def wd1 (s : ByteArray) : ByteArray := if spA s 0 < s.size then s.extract 0 (spA s 0) else ⟨#[]⟩
def wd2 (s : ByteArray) : ByteArray := if spA s 0 < s.size then s.extract (spA s 0 + 1) s.size else ⟨#[]⟩
def wd3 (s : ByteArray) : Bool := decide (spA s 0 < s.size)
theorem ansWd {s : ByteArray} (hs : s.size ≤ 1000000000) : Answers Tryd.prog Γm 92 [.v (.string s)] [] (.tup [.v (.string (wd1 s)), .v (.string (wd2 s)), .sb (wd3 s)]) [] [] := by
  have hl := loopWd hs 0 ⟨Nat.zero_le _, rfl⟩
  unfold OWd at hl
  unfold wd1 wd2 wd3
  by_cases hq : spA s 0 < s.size
  · rw [if_pos hq] at hl
    rw [if_pos hq, if_pos hq, decide_eq_true hq]
    refine answers (fn := Tryd.f92) (c := bodyOf Tryd.f92) (ntmps := 23) (results := [.tmp 2, .tmp 3, .tmp 4]) [] (fun _ => LSpec.at [0, 5, 2, 3, 4] [] (SWd s 0) (retWd s (spA s 0))) false Tryd.func92 (by kernel_rfl) (by kernel_rfl) (by kernel_rfl) (by kernel_rfl) (by simp) rfl (oneLoop (b := lpWd) (by kernel_rfl) hl) <| Meets.of (runWdR s (spA s 0)) <| ?_
    repeat' (first | refine wC (by first | omega | (simp only [W1, cond_true, cond_false]; first | done | omega)) ?_ | refine wT (by first | omega | (simp only [W1, cond_true, cond_false]; first | done | omega)) ?_ | refine wF (by intro _h; first | omega | (simp only [W1, cond_true, cond_false] at _h; first | done | omega)) ?_ | (refine wS ?_ ?_ <;> intro _h <;> simp only [W1, cond_true, cond_false] at _h))
    all_goals simp only [W1, W2, owesN, owesX, owesR, cond_true, cond_false]
    repeat' (first | apply And.intro | intro _hc)
    all_goals first | exact AV.le_refl _ | exact AV.le_any _ | exact OLe.refl _ | exact OLe.none _ | exact LeH.refl _ | exact LeL.refl _ | exact AV.le.bs _ | exact AV.le.sb _ | omega | contradiction
  · rw [if_neg hq] at hl
    rw [if_neg hq, if_neg hq, decide_eq_false hq]
    refine answers (fn := Tryd.f92) (c := bodyOf Tryd.f92) (ntmps := 23) (results := [.tmp 2, .tmp 3, .tmp 4]) [] (fun _ => LSpec.at [0, 5, 2, 3, 4] [] (SWd s 0) endWd) false Tryd.func92 (by kernel_rfl) (by kernel_rfl) (by kernel_rfl) (by kernel_rfl) (by simp) rfl (oneLoop (b := lpWd) (by kernel_rfl) hl) <| Meets.of (runWdE s) <| ?_
    repeat' (first | refine wC (by first | omega | (simp only [W1, cond_true, cond_false]; first | done | omega)) ?_ | refine wT (by first | omega | (simp only [W1, cond_true, cond_false]; first | done | omega)) ?_ | refine wF (by intro _h; first | omega | (simp only [W1, cond_true, cond_false] at _h; first | done | omega)) ?_ | (refine wS ?_ ?_ <;> intro _h <;> simp only [W1, cond_true, cond_false] at _h))
    all_goals simp only [W1, W2, owesN, owesX, owesR, cond_true, cond_false]
    repeat' (first | apply And.intro | intro _hc)
    all_goals first | exact tup3 (leS rfl) (leS rfl) (leB rfl) | exact AV.le_refl _ | exact AV.le_any _ | exact OLe.refl _ | exact OLe.none _ | exact LeH.refl _ | exact LeL.refl _ | exact AV.le.bs _ | exact AV.le.sb _ | omega | contradiction
noncomputable def kWd : CT Tryd.prog Γm := CT.oS 92 Tryd.func92 (by kernel_rfl) (by kernel_rfl) (fun s => s.size ≤ 1000000000) (fun s => .tup [.v (.string (wd1 s)), .v (.string (wd2 s)), .sb (wd3 s)]) (fun _ => []) (fun s h => ansWd h)
/-! ### the program's words -/
structure Wo where
  s : ByteArray
instance : Inhabited Wo := ⟨⟨⟨#[]⟩⟩⟩
def Wo.c (x : Wo) : List AV := [.v (.string x.s)]
def Wo.cells (x : Wo) : List Value := [.string x.s]
theorem Wo.cod : Cod Wo.c 1 := ⟨fun _ => rfl, fun b x y => by cases b <;> rfl⟩
theorem Wo.dec (vs : List Value) (h0 : GoodVs [.str] vs) : ∃ a : Wo, vs = a.cells := by
  obtain ⟨_, _, rfl, ⟨a0, rfl, _⟩, h1⟩ := h0.cons
  obtain rfl := h1.nil
  exact ⟨⟨a0⟩, rfl⟩
abbrev Wo.ks : List Cel := [.str]
noncomputable abbrev lpWs : Code := loopOf (bodyOf Tryd.f90) 0
abbrev lvWs : List Nat := [0, 1, 4, 7, 11, 5, 6]
abbrev nlWs : List (Nat × TypeId) := [(2, 9)]
structure XW where
  p : Nat
  f : Nat
  L : List Wo
def SWs (s : ByteArray) (n : Int) (x : XW) : List AV × Heap := ([.v (.string s), .v (.int .i64 n), .hs 0 0 x.L.length, .v (.int .i64 (x.f : Int)), .its 1, .any, .any], [some (.arr 1 x.L.length (lsF Wo.c x.L)), some (.sit s x.p)])
theorem rWs (s : ByteArray) (n : Int) (x : XW) : roundE (P := Tryd.prog) (Γ := Γm) [] Lno false 0 0 lpWs lvWs nlWs 35 (SWs s n x).1 (SWs s n x).2 =
  Tree.br (decide (x.p < ByteArray.size s)) (Tree.br (!decide ((↑(Utf8.decode s x.p).fst : Int) = (32 : Int))) (Tree.leaf (Out.mk AEx.normal [AV.v (Value.string s), AV.v (Value.int IntKind.i64
    n), AV.hs (0 : Nat) (0 : Nat) (List.length x.L), AV.v (Value.int IntKind.i64 (↑x.f : Int)), AV.its (1 : Nat), AV.any, AV.any] [some (Blk.arr (1 : Nat) (List.length x.L) (lsF Wo.c x.L)),
    some (Blk.sit s (x.p + (Utf8.decode s x.p).snd))])) (Tree.chk (decide ((0 : Int) ≤ (↑x.f : Int)) && decide ((↑x.f : Int) ≤ (↑x.p : Int)) && decide ((↑x.p : Int) ≤ (↑(ByteArray.size s) :
    Int))) (Tree.chk (roomOk (16 : Nat) (List.length x.L + (1 : Nat))) (Tree.br (decide ((↑(List.length x.L + (1 : Nat)) : Int) = n)) (Tree.chk (decide ((0 : Int) ≤ IntKind.wrap IntKind.i64
    ((↑x.p : Int) + (1 : Int))) && decide (IntKind.wrap IntKind.i64 ((↑x.p : Int) + (1 : Int)) ≤ (↑(ByteArray.size s) : Int)) && decide ((↑(ByteArray.size s) : Int) ≤ (↑(ByteArray.size s) :
    Int))) (Tree.leaf (Out.mk AEx.ret [AV.v (Value.string s), AV.v (Value.int IntKind.i64 n), AV.hs (0 : Nat) (0 : Nat) (List.length x.L + (1 : Nat)), AV.v (Value.int IntKind.i64
    (IntKind.wrap IntKind.i64 ((↑x.p : Int) + (1 : Int)))), AV.its (1 : Nat), AV.v (Value.string (ByteArray.extract s (Int.toNat (IntKind.wrap IntKind.i64 ((↑x.p : Int) + (1 : Int))))
    (ByteArray.size s))), AV.v (Value.bool true)] [some (Blk.arr (1 : Nat) (List.length x.L + (1 : Nat)) fun j => mixL (decide (j < List.length x.L)) (lsF Wo.c x.L ((0 : Nat) + j)) (chain
    [AV.v (Value.string (ByteArray.mk #[]))] (0 : Nat) [[AV.v (Value.string (ByteArray.extract s x.f x.p))]] ((0 : Nat) + (j - List.length x.L)))), some (Blk.sit s (x.p + (Utf8.decode s
    x.p).snd))]))) (Tree.leaf (Out.mk AEx.normal [AV.v (Value.string s), AV.v (Value.int IntKind.i64 n), AV.hs (0 : Nat) (0 : Nat) (List.length x.L + (1 : Nat)), AV.v (Value.int IntKind.i64
    (IntKind.wrap IntKind.i64 ((↑x.p : Int) + (1 : Int)))), AV.its (1 : Nat), AV.any, AV.any] [some (Blk.arr (1 : Nat) (List.length x.L + (1 : Nat)) fun j => mixL (decide (j < List.length
    x.L)) (lsF Wo.c x.L ((0 : Nat) + j)) (chain [AV.v (Value.string (ByteArray.mk #[]))] (0 : Nat) [[AV.v (Value.string (ByteArray.extract s x.f x.p))]] ((0 : Nat) + (j - List.length
    x.L)))), some (Blk.sit s (x.p + (Utf8.decode s x.p).snd))])))))) (Tree.leaf (Out.mk (AEx.exit (0 : Nat)) [AV.v (Value.string s), AV.v (Value.int IntKind.i64 n), AV.hs (0 : Nat) (0 : Nat)
    (List.length x.L), AV.v (Value.int IntKind.i64 (↑x.f : Int)), AV.its (1 : Nat), AV.any, AV.any] [some (Blk.arr (1 : Nat) (List.length x.L) (lsF Wo.c x.L)), some (Blk.sit s x.p)])) := by kernel_rfl
end Go.Eng.TA

/- transactions: words: the program's loop. -/
namespace Go.Eng.TA
open Go Go.Eng Go.Eng.M Go.Lib Go.Proofs
set_option linter.unusedSimpArgs false
set_option linter.unusedVariables false
/-- k words from p on, and where the rest begins -/
def wl (s : ByteArray) : Nat → Nat → Option (List Wo × Nat)
  | 0, p => some ([], p)
  | k + 1, p => if spA s p < s.size then (wl s k (spA s p + 1)).map (fun r => (⟨s.extract p (spA s p)⟩ :: r.1, r.2)) else none
def preL (L : List Wo) (o : Option (List Wo × Nat)) : Option (List Wo × Nat) := o.map fun r => (L ++ r.1, r.2)
theorem preL_step {s : ByteArray} {L : List Wo} {k f : Nat} (h : spA s f < s.size) : preL L (wl s (k + 1) f) = preL (L ++ [⟨s.extract f (spA s f)⟩]) (wl s k (spA s f + 1)) := by
  unfold preL
  rw [wl, if_pos h]
  cases wl s k (spA s f + 1) with
  | none => rfl
  | some r => simp
def OWs (s : ByteArray) : Option (List Wo × Nat) → Out
  | some (L, q) => ⟨.ret, [.any, .any, .hs 0 0 L.length, .any, .any, .v (.string (s.extract q s.size)), .sb true], [some (.arr 1 L.length (lsF Wo.c L)), none]⟩
  | none => ⟨.exit 0, [.any, .any, .any, .any, .any, .any, .any], [none, none]⟩
theorem room16 {n : Nat} (h : n ≤ 1000000000) : roomOk 16 n = true := by
  unfold roomOk
  exact decide_eq_true (by omega)
set_option maxRecDepth 100000 in
theorem loopWs {s : ByteArray} (hs : s.size ≤ 1000000) {R : Option (List Wo × Nat)} : ∀ x : XW, (x.p ≤ s.size ∧ x.f ≤ x.p ∧ x.L.length < 6 ∧ spA s x.p = spA s x.f ∧ preL x.L (wl s (6 - x.L.length) x.f) = R) → LoopOK Tryd.prog Γm 0 35 lpWs (LSpec.at lvWs nlWs (SWs s 6 x) (OWs s R)) := by
  refine loop_at (S := SWs s 6) (O := fun _ => OWs s R) (k := 0) (fun x => s.size - x.p) fun x hp => .of (noLoops (by kernel_rfl)) (rWs s 6 x) ?_
  obtain ⟨p, f, L⟩ := x
  obtain ⟨h1, h2, h3, h4, h5⟩ := hp
  dsimp only at h1 h2 h3 h4 h5
  rcases Nat.lt_or_ge p s.size with hi | hi
  · by_cases hc : (Utf8.decode s p).1 = 32
    · have hb : bN s p = 32 := by
        rcases Nat.lt_or_ge (bN s p) 128 with c | c
        · rw [dec_asc c] at hc; exact hc
        · have := dec_high c; omega
      have hd : Utf8.decode s p = (32, 1) := by rw [dec_asc (by omega), hb]
      rw [sp_here hi hb] at h4
      have hk : 6 - L.length = (5 - L.length) + 1 := by omega
      rw [hk, preL_step (by omega), ← h4] at h5
      have ha := Wo.cod.app0 L ⟨s.extract f p⟩ default rfl (N := L.length + 1) rfl
      have hroom : roomOk 16 (L.length + 1) = true := room16 (by omega)
      have hd1 : (Utf8.decode s p).1 = 32 := hc
      have hd2 : (Utf8.decode s p).2 = 1 := by rw [hd]
      have hx : (!decide (((32 : Nat) : Int) = (32 : Int))) = false := by decide
      simp only [hd1, hd2, hx]
      clear hd hd1 hd2 hx hc
      by_cases h6 : L.length = 5
      · have hR : R = some (L ++ [⟨s.extract f p⟩], p + 1) := by
          rw [← h5, show 5 - L.length = 0 by omega, wl]; unfold preL; simp
        have hll : (L ++ [(⟨s.extract f p⟩ : Wo)]).length = L.length + 1 := by simp
        rw [hR]
        repeat' (first | refine wC (by first | omega | (simp only [W1, cond_true, cond_false, wrapUpN (show p ≤ 10000000000 by omega), Int.toNat_natCast]; first | done | omega)) ?_ | refine wT (by first | omega | (simp only [W1, cond_true, cond_false, wrapUpN (show p ≤ 10000000000 by omega), Int.toNat_natCast]; first | done | omega)) ?_ | refine wF (by intro _h; first | omega | (simp only [W1, cond_true, cond_false, wrapUpN (show p ≤ 10000000000 by omega), Int.toNat_natCast] at _h; first | done | omega)) ?_ | (refine wS ?_ ?_ <;> intro _h <;> simp only [W1, cond_true, cond_false, wrapUpN (show p ≤ 10000000000 by omega), Int.toNat_natCast] at _h))
        all_goals simp only [W1, W2, owesN, owesX, owesR, cond_true, cond_false, wrapUpN (show p ≤ 10000000000 by omega), Int.toNat_natCast]
        repeat' (first | apply And.intro | intro _hc)
        all_goals first | exact hroom | exact ⟨.any _, .any _, by (rw [hll]; exact AV.le_refl _), .any _, .any _, .refl _, leB rfl, trivial⟩ | exact ⟨by (rw [hll] at *; exact ha), OLe.none _, trivial⟩ | exact rfl | exact trivial | ((rw [hll]; exact AV.le_refl _)) | exact ha | exact leB rfl | exact AV.le_refl _ | exact AV.le_any _ | exact OLe.refl _ | exact OLe.none _ | exact LeH.refl _ | exact LeL.refl _ | exact AV.le.bs _ | exact AV.le.sb _ | omega | contradiction
      · have hll : (L ++ [(⟨s.extract f p⟩ : Wo)]).length = L.length + 1 := by simp
        have hlt : (L ++ [(⟨s.extract f p⟩ : Wo)]).length < 6 := by omega
        have hcont : preL (L ++ [(⟨s.extract f p⟩ : Wo)]) (wl s (6 - (L ++ [(⟨s.extract f p⟩ : Wo)]).length) (p + 1)) = R := by
          rw [hll, show 6 - (L.length + 1) = 5 - L.length by omega]; exact h5
        have hv : AV.le (.hs 0 0 (L.length + 1)) (.hs 0 0 (L ++ [(⟨s.extract f p⟩ : Wo)]).length) := by rw [hll]; exact AV.le_refl _
        repeat' (first | refine wC (by first | omega | (simp only [W1, cond_true, cond_false, wrapUpN (show p ≤ 10000000000 by omega)]; first | done | omega)) ?_ | refine wT (by first | omega | (simp only [W1, cond_true, cond_false, wrapUpN (show p ≤ 10000000000 by omega)]; first | done | omega)) ?_ | refine wF (by intro _h; first | omega | (simp only [W1, cond_true, cond_false, wrapUpN (show p ≤ 10000000000 by omega)] at _h; first | done | omega)) ?_ | (refine wS ?_ ?_ <;> intro _h <;> simp only [W1, cond_true, cond_false, wrapUpN (show p ≤ 10000000000 by omega)] at _h))
        all_goals simp only [W1, W2, owesN, owesX, owesR, cond_true, cond_false, wrapUpN (show p ≤ 10000000000 by omega)]
        repeat' (first | apply And.intro | intro _hc)
        all_goals first | exact hroom | ((refine ⟨⟨p + 1, p + 1, L ++ [⟨s.extract f p⟩]⟩, ?_, ?_, ?_, ?_⟩; exact ⟨.refl _, .refl _, hv, .refl _, .refl _, .refl _, .refl _, trivial⟩; exact ⟨ha, OLe.refl _, trivial⟩; exact ⟨hi, Nat.le_refl _, hlt, rfl, hcont⟩; exact Nat.sub_lt_sub_left hi (Nat.lt_succ_self _))) | exact AV.le_refl _ | exact AV.le_any _ | exact OLe.refl _ | exact OLe.none _ | exact LeH.refl _ | exact LeL.refl _ | exact AV.le.bs _ | exact AV.le.sb _ | omega | contradiction
    · have hle := dec_le hi
      have hpos := dec_pos s p
      have hn := sp_rune hi hc
      repeat' (first | refine wC (by first | omega | (simp only [W1, cond_true, cond_false]; first | done | omega)) ?_ | refine wT (by first | omega | (simp only [W1, cond_true, cond_false]; first | done | omega)) ?_ | refine wF (by intro _h; first | omega | (simp only [W1, cond_true, cond_false] at _h; first | done | omega)) ?_ | (refine wS ?_ ?_ <;> intro _h <;> simp only [W1, cond_true, cond_false] at _h))
      all_goals simp only [W1, W2, owesN, owesX, owesR, cond_true, cond_false]
      repeat' (first | apply And.intro | intro _hc)
      all_goals first | exact ⟨⟨p + (Utf8.decode s p).2, f, L⟩, LeL.refl _, LeH.refl _, ⟨hle, by (dsimp only; omega), h3, by (dsimp only; rw [← hn]; exact h4), h5⟩, by dsimp only; omega⟩ | exact AV.le_refl _ | exact AV.le_any _ | exact OLe.refl _ | exact OLe.none _ | exact LeH.refl _ | exact LeL.refl _ | exact AV.le.bs _ | exact AV.le.sb _ | omega | contradiction
  · have hR : R = none := by
      rw [← h5, show 6 - L.length = (5 - L.length) + 1 by omega, wl, if_neg (by rw [← h4, sp_end hi]; omega)]; rfl
    rw [hR]
    repeat' (first | refine wC (by first | omega | (simp only [W1, cond_true, cond_false]; first | done | omega)) ?_ | refine wT (by first | omega | (simp only [W1, cond_true, cond_false]; first | done | omega)) ?_ | refine wF (by intro _h; first | omega | (simp only [W1, cond_true, cond_false] at _h; first | done | omega)) ?_ | (refine wS ?_ ?_ <;> intro _h <;> simp only [W1, cond_true, cond_false] at _h))
    all_goals simp only [W1, W2, owesN, owesX, owesR, cond_true, cond_false]
    repeat' (first | apply And.intro | intro _hc)
    all_goals first | exact rfl | exact AV.le_refl _ | exact AV.le_any _ | exact OLe.refl _ | exact OLe.none _ | exact LeH.refl _ | exact LeL.refl _ | exact AV.le.bs _ | exact AV.le.sb _ | omega | contradiction
end Go.Eng.TA

/- transactions: words: the contracts. -/
namespace Go.Eng.TA
open Go Go.Eng Go.Eng.M Go.Lib Go.Proofs
set_option linter.unusedSimpArgs false
set_option linter.unusedVariables false
theorem runWsR (s : ByteArray) (L : List Wo) (q : Nat) : bodyE (P := Tryd.prog) (Γ := Γm) [] (fun _ => LSpec.at lvWs nlWs (SWs s 6 ⟨0, 0, []⟩) (OWs s (some (L, q)))) false 35 [.tmp 4, .tmp 5, .tmp 6] (bodyOf Tryd.f90) [.v (.string s), .v (.int .i64 6)] [] =
  Tree.chk (cl (LeL [AV.v (Value.string s), AV.v (Value.int IntKind.i64 (6 : Int)), AV.hs (0 : Nat) (0 : Nat) (0 : Nat), AV.v (Value.int IntKind.i64 (0 : Int)), AV.its (1 : Nat), AV.v
    (Value.string (ByteArray.mk #[])), AV.v (Value.bool false)] [AV.v (Value.string s), AV.v (Value.int IntKind.i64 (6 : Int)), AV.hs (0 : Nat) (0 : Nat) (0 : Nat), AV.v (Value.int
    IntKind.i64 (↑(0 : Nat) : Int)), AV.its (1 : Nat), AV.any, AV.any] ∧ LeH [some (Blk.arr (1 : Nat) (0 : Nat) fun x => [AV.v (Value.string (ByteArray.mk #[]))]), some (Blk.sit s (0 :
    Nat))] [some (Blk.arr (1 : Nat) (0 : Nat) (lsF Wo.c (XW.mk (0 : Nat) (0 : Nat) []).L)), some (Blk.sit s (0 : Nat))])) (Tree.leaf (Ans.mk (AV.tup [AV.hs (0 : Nat) (0 : Nat) (List.length
    L), AV.v (Value.string (ByteArray.extract s q (ByteArray.size s))), AV.sb true]) [some (Blk.arr (1 : Nat) (List.length L) (lsF Wo.c L))])) := by kernel_rfl
theorem runWsE (s : ByteArray) : bodyE (P := Tryd.prog) (Γ := Γm) [] (fun _ => LSpec.at lvWs nlWs (SWs s 6 ⟨0, 0, []⟩) (OWs s none)) false 35 [.tmp 4, .tmp 5, .tmp 6] (bodyOf Tryd.f90) [.v (.string s), .v (.int .i64 6)] [] =
  Tree.chk (cl (LeL [AV.v (Value.string s), AV.v (Value.int IntKind.i64 (6 : Int)), AV.hs (0 : Nat) (0 : Nat) (0 : Nat), AV.v (Value.int IntKind.i64 (0 : Int)), AV.its (1 : Nat), AV.v
    (Value.string (ByteArray.mk #[])), AV.v (Value.bool false)] [AV.v (Value.string s), AV.v (Value.int IntKind.i64 (6 : Int)), AV.hs (0 : Nat) (0 : Nat) (0 : Nat), AV.v (Value.int
    IntKind.i64 (↑(0 : Nat) : Int)), AV.its (1 : Nat), AV.any, AV.any] ∧ LeH [some (Blk.arr (1 : Nat) (0 : Nat) fun x => [AV.v (Value.string (ByteArray.mk #[]))]), some (Blk.sit s (0 :
    Nat))] [some (Blk.arr (1 : Nat) (0 : Nat) (lsF Wo.c (XW.mk (0 : Nat) (0 : Nat) []).L)), some (Blk.sit s (0 : Nat))])) (Tree.leaf (Ans.mk (AV.tup [AV.v (Value.slice none (0 : Nat) (0 :
    Nat)), AV.v (Value.string (ByteArray.mk #[])), AV.v (Value.bool false)]) [])) := by kernel_rfl
theorem hNW : OLe (some (.arr 1 0 fun _ => [AV.v (Value.string ⟨#[]⟩)])) (some (.arr 1 0 (lsF Wo.c []))) := OLe.arr rfl (fun e he => absurd he (Nat.not_lt_zero e)) (fun _ => rfl)
theorem ansWsR {s : ByteArray} (hs : s.size ≤ 1000000) {L : List Wo} {q : Nat} (h : wl s 6 0 = some (L, q)) : Answers Tryd.prog Γm 90 [.v (.string s), .v (.int .i64 6)] [] (.tup [.hs 0 0 L.length, .v (.string (s.extract q s.size)), .sb true]) [] [.arr 1 L.length (lsF Wo.c L)] := by
  have hl := loopWs hs (R := some (L, q)) ⟨0, 0, []⟩ ⟨Nat.zero_le _, Nat.le_refl _, by show (0 : Nat) < 6; omega, rfl, by show preL [] (wl s 6 0) = _; rw [h]; rfl⟩
  refine answers (fn := Tryd.f90) (c := bodyOf Tryd.f90) (ntmps := 35) (results := [.tmp 4, .tmp 5, .tmp 6]) [] (fun _ => LSpec.at lvWs nlWs (SWs s 6 ⟨0, 0, []⟩) (OWs s (some (L, q)))) false Tryd.func90 (by kernel_rfl) (by kernel_rfl) (by kernel_rfl) (by kernel_rfl) (by simp) rfl (oneLoop (b := lpWs) (by kernel_rfl) hl) <| Meets.of (runWsR s L q) <| ?_
  repeat' (first | refine wC (by first | omega | (simp only [W1, cond_true, cond_false]; first | done | omega)) ?_ | refine wT (by first | omega | (simp only [W1, cond_true, cond_false]; first | done | omega)) ?_ | refine wF (by intro _h; first | omega | (simp only [W1, cond_true, cond_false] at _h; first | done | omega)) ?_ | (refine wS ?_ ?_ <;> intro _h <;> simp only [W1, cond_true, cond_false] at _h))
  all_goals simp only [W1, W2, owesN, owesX, owesR, cond_true, cond_false]
  repeat' (first | apply And.intro | intro _hc)
  all_goals first | exact hNW | exact ⟨hNW, OLe.refl _, trivial⟩ | exact AV.le_refl _ | exact AV.le_any _ | exact OLe.refl _ | exact OLe.none _ | exact LeH.refl _ | exact LeL.refl _ | exact AV.le.bs _ | exact AV.le.sb _ | omega | contradiction
theorem ansWsE {s : ByteArray} (hs : s.size ≤ 1000000) (h : wl s 6 0 = none) : Answers Tryd.prog Γm 90 [.v (.string s), .v (.int .i64 6)] [] (.tup [.v (.slice none 0 0), .v (.string ⟨#[]⟩), .sb false]) [] [] := by
  have hl := loopWs hs (R := none) ⟨0, 0, []⟩ ⟨Nat.zero_le _, Nat.le_refl _, by show (0 : Nat) < 6; omega, rfl, by show preL [] (wl s 6 0) = _; rw [h]; rfl⟩
  refine answers (fn := Tryd.f90) (c := bodyOf Tryd.f90) (ntmps := 35) (results := [.tmp 4, .tmp 5, .tmp 6]) [] (fun _ => LSpec.at lvWs nlWs (SWs s 6 ⟨0, 0, []⟩) (OWs s none)) false Tryd.func90 (by kernel_rfl) (by kernel_rfl) (by kernel_rfl) (by kernel_rfl) (by simp) rfl (oneLoop (b := lpWs) (by kernel_rfl) hl) <| Meets.of (runWsE s) <| ?_
  repeat' (first | refine wC (by first | omega | (simp only [W1, cond_true, cond_false]; first | done | omega)) ?_ | refine wT (by first | omega | (simp only [W1, cond_true, cond_false]; first | done | omega)) ?_ | refine wF (by intro _h; first | omega | (simp only [W1, cond_true, cond_false] at _h; first | done | omega)) ?_ | (refine wS ?_ ?_ <;> intro _h <;> simp only [W1, cond_true, cond_false] at _h))
  all_goals simp only [W1, W2, owesN, owesX, owesR, cond_true, cond_false]
  repeat' (first | apply And.intro | intro _hc)
  all_goals first | exact hNW | exact ⟨hNW, OLe.refl _, trivial⟩ | exact tup3 (.refl _) (leS rfl) (leB rfl) | exact AV.le_refl _ | exact AV.le_any _ | exact OLe.refl _ | exact OLe.none _ | exact LeH.refl _ | exact LeL.refl _ | exact AV.le.bs _ | exact AV.le.sb _ | omega | contradiction
/-! ### the document's six words -/
noncomputable abbrev lpP6 : Code := loopOf (bodyOf Tryd.f37) 0
abbrev lvP6 : List Nat := [0, 2, 3, 4, 5]
structure X6 where
  i : Nat
  r : ByteArray
  L : List Wo
def S6w (x : X6) : List AV × Heap := ([.v (.string x.r), .ptr 0 0, .any, .ap 1, .v (.int .i64 (x.i : Int))], [some (.row [.v (.int .i64 0), .v (.string ⟨#[]⟩), .v (.string ⟨#[]⟩), .v (.string ⟨#[]⟩), .v (.string ⟨#[]⟩), .v (.int .i64 0), .v (.int .i64 0)]), some (.arr 1 6 (lsF Wo.c x.L))])
theorem r6w (x : X6) : roundE (P := Tryd.prog) (Γ := Γm) [kWd] Lno false 0 0 lpP6 lvP6 [] 110 (S6w x).1 (S6w x).2 =
  Tree.br (decide ((↑x.i : Int) < (6 : Int))) (Tree.chk (cl (ByteArray.size x.r ≤ (1000000000 : Nat) ∧ LeL [AV.v (Value.string x.r)] [AV.v (Value.string x.r)] ∧ LeH [] [])) (Tree.br (!wd3 x.r)
    (Tree.leaf (Out.mk AEx.ret [AV.v (Value.string x.r), AV.ptr (0 : Nat) (0 : Nat), AV.v (Value.bool false), AV.ap (1 : Nat), AV.v (Value.int IntKind.i64 (↑x.i : Int))] [some (Blk.row [AV.v
    (Value.int IntKind.i64 (0 : Int)), AV.v (Value.string (ByteArray.mk #[])), AV.v (Value.string (ByteArray.mk #[])), AV.v (Value.string (ByteArray.mk #[])), AV.v (Value.string
    (ByteArray.mk #[])), AV.v (Value.int IntKind.i64 (0 : Int)), AV.v (Value.int IntKind.i64 (0 : Int))]), some (Blk.arr (1 : Nat) (6 : Nat) (lsF Wo.c x.L))])) (Tree.chk (decide ((0 : Int) ≤
    (↑x.i : Int)) && decide ((↑x.i : Int) < (↑(6 : Nat) : Int))) (Tree.leaf (Out.mk AEx.normal [AV.v (Value.string (wd2 x.r)), AV.ptr (0 : Nat) (0 : Nat), AV.any, AV.ap (1 : Nat), AV.v
    (Value.int IntKind.i64 (IntKind.wrap IntKind.i64 ((↑x.i : Int) + (1 : Int))))] [some (Blk.row [AV.v (Value.int IntKind.i64 (0 : Int)), AV.v (Value.string (ByteArray.mk #[])), AV.v
    (Value.string (ByteArray.mk #[])), AV.v (Value.string (ByteArray.mk #[])), AV.v (Value.string (ByteArray.mk #[])), AV.v (Value.int IntKind.i64 (0 : Int)), AV.v (Value.int IntKind.i64 (0
    : Int))]), some (Blk.arr (1 : Nat) (6 : Nat) fun k => mixL (Nat.beq k x.i) [AV.v (Value.string (wd1 x.r))] (lsF Wo.c x.L k))]))))) (Tree.leaf (Out.mk (AEx.exit (0 : Nat)) [AV.v
    (Value.string x.r), AV.ptr (0 : Nat) (0 : Nat), AV.any, AV.ap (1 : Nat), AV.v (Value.int IntKind.i64 (↑x.i : Int))] [some (Blk.row [AV.v (Value.int IntKind.i64 (0 : Int)), AV.v
    (Value.string (ByteArray.mk #[])), AV.v (Value.string (ByteArray.mk #[])), AV.v (Value.string (ByteArray.mk #[])), AV.v (Value.string (ByteArray.mk #[])), AV.v (Value.int IntKind.i64 (0
    : Int)), AV.v (Value.int IntKind.i64 (0 : Int))]), some (Blk.arr (1 : Nat) (6 : Nat) (lsF Wo.c x.L))])) := by kernel_rfl
theorem sp_ext {s : ByteArray} {q : Nat} (hq : q ≤ s.size) : ∀ k p, p + k = s.size - q → spF (s.extract q s.size) k p + q = spF s k (p + q) := by
  intro k
  induction k with
  | zero => intro p _; rfl
  | succ k ih =>
    intro p h
    have hb : bN (s.extract q s.size) p = bN s (p + q) := by
      rw [bN_extract _ _ _ _ (Nat.le_refl _), if_pos (by omega), Nat.add_comm]
    rw [spF, spF, hb]
    by_cases hc : bN s (p + q) = 32
    · rw [if_pos hc, if_pos hc]
    · rw [if_neg hc, if_neg hc, ih (p + 1) (by omega), show p + 1 + q = p + q + 1 by omega]
theorem sp_ext0 {s : ByteArray} {q : Nat} (hq : q ≤ s.size) : spA (s.extract q s.size) 0 + q = spA s q := by
  have h := sp_ext hq (s.size - q) 0 (by omega)
  unfold spA
  rw [ext_size _ _ _ (Nat.le_refl _), Nat.sub_zero, h, Nat.zero_add]
theorem wd_ext {s : ByteArray} {q : Nat} (hq : q ≤ s.size) : wd3 (s.extract q s.size) = decide (spA s q < s.size) ∧ (spA s q < s.size → wd1 (s.extract q s.size) = s.extract q (spA s q) ∧ wd2 (s.extract q s.size) = s.extract (spA s q + 1) s.size) := by
  have h0 := sp_ext0 hq
  have hz := ext_size s q s.size (Nat.le_refl _)
  have hlt : (spA (s.extract q s.size) 0 < (s.extract q s.size).size) ↔ spA s q < s.size := by omega
  refine ⟨?_, fun h => ?_⟩
  · unfold wd3; rw [Bool.eq_iff_iff, decide_eq_true_iff, decide_eq_true_iff]; exact hlt
  · unfold wd1 wd2
    rw [if_pos (hlt.2 h), if_pos (hlt.2 h)]
    refine ⟨?_, ?_⟩
    · refine bN_eq ?_ fun j hj => ?_
      · rw [ext_size _ _ _ (by omega), ext_size _ _ _ (by omega)]; omega
      · rw [ext_size _ _ _ (by omega)] at hj
        rw [bN_extract _ _ _ _ (by omega), if_pos (by omega), bN_extract _ _ _ _ (by omega), if_pos (by omega), bN_extract _ _ _ _ (by omega), if_pos (by omega), Nat.zero_add]
    · rw [ext_ext (by omega) rfl, show q + (spA (s.extract q s.size) 0 + 1) = spA s q + 1 by omega]
def z6 : AV × AV := (.any, .any)
abbrev zRow : Blk := .row [.v (.int .i64 0), .v (.string ⟨#[]⟩), .v (.string ⟨#[]⟩), .v (.string ⟨#[]⟩), .v (.string ⟨#[]⟩), .v (.int .i64 0), .v (.int .i64 0)]
def O6w (s : ByteArray) : Option (List Wo × Nat) → Out
  | some (D, q) => ⟨.exit 0, [.v (.string (s.extract q s.size)), .ptr 0 0, .any, .ap 1, .any], [some zRow, some (.arr 1 6 (lsF Wo.c D))]⟩
  | none => ⟨.ret, [.any, .ptr 0 0, .v (.bool false), .any, .any], [some zRow, none]⟩
structure Y6 where
  D : List Wo
  q : Nat
def S6 (s : ByteArray) (y : Y6) : List AV × Heap := S6w ⟨y.D.length, s.extract y.q s.size, y.D ++ List.replicate (6 - y.D.length) default⟩
theorem set_next (D : List Wo) (w : Wo) (h : D.length < 6) : (D ++ List.replicate (6 - D.length) default).set D.length w = (D ++ [w]) ++ List.replicate (6 - (D ++ [w]).length) default := by
  have e : 6 - D.length = (6 - (D ++ [w]).length) + 1 := by rw [List.length_append, List.length_singleton]; omega
  rw [e, List.replicate_succ, List.set_append_right _ _ (Nat.le_refl _), Nat.sub_self, List.set_cons_zero, List.append_assoc]
  rfl
theorem loop6w {s : ByteArray} (hs : s.size ≤ 1000000) {R : Option (List Wo × Nat)} : ∀ y : Y6, (y.D.length ≤ 6 ∧ y.q ≤ s.size ∧ preL y.D (wl s (6 - y.D.length) y.q) = R) → LoopOK Tryd.prog Γm 0 110 lpP6 (LSpec.at lvP6 [] (S6 s y) (O6w s R)) := by
  refine loop_at (S := S6 s) (O := fun _ => O6w s R) (k := 0) (fun y => 6 - y.D.length) fun y hp => .of (noLoops (by kernel_rfl)) (r6w ⟨y.D.length, s.extract y.q s.size, y.D ++ List.replicate (6 - y.D.length) default⟩) ?_
  obtain ⟨D, q⟩ := y
  obtain ⟨h1, h2, h3⟩ := hp
  dsimp only at h1 h2 h3
  have hz : (s.extract q s.size).size ≤ 1000000000 := by rw [ext_size _ _ _ (Nat.le_refl _)]; omega
  obtain ⟨w3, w12⟩ := wd_ext h2
  rcases Nat.lt_or_ge D.length 6 with hi | hi
  · have hk : 6 - D.length = (5 - D.length) + 1 := by omega
    rw [hk] at h3
    by_cases hq : spA s q < s.size
    · obtain ⟨w1, w2⟩ := w12 hq
      rw [preL_step hq] at h3
      rw [decide_eq_true hq] at w3
      have hll : (D ++ [(⟨s.extract q (spA s q)⟩ : Wo)]).length = D.length + 1 := by simp
      have hset := Wo.cod.set (D ++ List.replicate (6 - D.length) default) (i := D.length) (N := 6) ⟨s.extract q (spA s q)⟩ (by simp; omega) (by simp; omega)
      rw [set_next D _ hi] at hset
      have hl6 : (D ++ [(⟨s.extract q (spA s q)⟩ : Wo)] ++ List.replicate (6 - (D ++ [(⟨s.extract q (spA s q)⟩ : Wo)]).length) default).length = 6 := by
        rw [List.length_append, List.length_replicate, hll]; omega
      rw [hl6] at hset
      have hcont : preL (D ++ [(⟨s.extract q (spA s q)⟩ : Wo)]) (wl s (6 - (D ++ [(⟨s.extract q (spA s q)⟩ : Wo)]).length) (spA s q + 1)) = R := by
        rw [hll, show 6 - (D.length + 1) = 5 - D.length by omega]; exact h3
      simp only [w3, w1, w2]
      repeat' (first | refine wC (by first | omega | (simp only [W1, cond_true, cond_false, hz, wrapUpN (show D.length ≤ 10000000000 by omega)]; first | done | omega)) ?_ | refine wT (by first | omega | (simp only [W1, cond_true, cond_false, hz, wrapUpN (show D.length ≤ 10000000000 by omega)]; first | done | omega)) ?_ | refine wF (by intro _h; first | omega | (simp only [W1, cond_true, cond_false, hz, wrapUpN (show D.length ≤ 10000000000 by omega)] at _h; first | done | omega)) ?_ | (refine wS ?_ ?_ <;> intro _h <;> simp only [W1, cond_true, cond_false, hz, wrapUpN (show D.length ≤ 10000000000 by omega)] at _h))
      all_goals simp only [W1, W2, owesN, owesX, owesR, cond_true, cond_false, hz, wrapUpN (show D.length ≤ 10000000000 by omega)]
      repeat' (first | apply And.intro | intro _hc)
      all_goals first | ((refine ⟨⟨D ++ [⟨s.extract q (spA s q)⟩], spA s q + 1⟩, ?_, ?_, ?_, ?_⟩; exact ⟨.refl _, .refl _, .refl _, .refl _, by (rw [hll]; exact AV.le_refl _), trivial⟩; exact ⟨OLe.refl _, hset, trivial⟩; exact ⟨by (rw [hll]; omega), hq, hcont⟩; (rw [hll]; omega))) | exact AV.le_refl _ | exact AV.le_any _ | exact OLe.refl _ | exact OLe.none _ | exact LeH.refl _ | exact LeL.refl _ | exact AV.le.bs _ | exact AV.le.sb _ | omega | contradiction
    · rw [decide_eq_false hq] at w3
      have hR : R = none := by rw [← h3, wl, if_neg hq]; rfl
      rw [hR]
      simp only [w3]
      repeat' (first | refine wC (by first | omega | (simp only [W1, cond_true, cond_false, hz]; first | done | omega)) ?_ | refine wT (by first | omega | (simp only [W1, cond_true, cond_false, hz]; first | done | omega)) ?_ | refine wF (by intro _h; first | omega | (simp only [W1, cond_true, cond_false, hz] at _h; first | done | omega)) ?_ | (refine wS ?_ ?_ <;> intro _h <;> simp only [W1, cond_true, cond_false, hz] at _h))
      all_goals simp only [W1, W2, owesN, owesX, owesR, cond_true, cond_false, hz]
      repeat' (first | apply And.intro | intro _hc)
      all_goals first | exact rfl | exact AV.le_refl _ | exact AV.le_any _ | exact OLe.refl _ | exact OLe.none _ | exact LeH.refl _ | exact LeL.refl _ | exact AV.le.bs _ | exact AV.le.sb _ | omega | contradiction
  · have h6 : D.length = 6 := by omega
    have hR : R = some (D, q) := by
      rw [← h3, h6, Nat.sub_self, wl]; unfold preL; simp
    have hD : D ++ List.replicate (6 - D.length) default = D := by rw [h6, Nat.sub_self, List.replicate_zero, List.append_nil]
    rw [hR]
    simp only [hD]
    repeat' (first | refine wC (by first | omega | (simp only [W1, cond_true, cond_false]; first | done | omega)) ?_ | refine wT (by first | omega | (simp only [W1, cond_true, cond_false]; first | done | omega)) ?_ | refine wF (by intro _h; first | omega | (simp only [W1, cond_true, cond_false] at _h; first | done | omega)) ?_ | (refine wS ?_ ?_ <;> intro _h <;> simp only [W1, cond_true, cond_false] at _h))
    all_goals simp only [W1, W2, owesN, owesX, owesR, cond_true, cond_false]
    repeat' (first | apply And.intro | intro _hc)
    all_goals first | exact rfl | exact AV.le_refl _ | exact AV.le_any _ | exact OLe.refl _ | exact OLe.none _ | exact LeH.refl _ | exact LeL.refl _ | exact AV.le.bs _ | exact AV.le.sb _ | omega | contradiction
end Go.Eng.TA

/- transactions: out of words. -/
namespace Go.Eng.TA
open Go Go.Eng Go.Eng.M Go.Lib Go.Proofs
set_option linter.unusedSimpArgs false
set_option linter.unusedVariables false
def ofSII : List AV → List Blk → Option (ByteArray × Int × Int)
  | [.v (.string s), .v (.int _ a), .v (.int _ b)], [] => some (s, a, b)
  | _, _ => none
noncomputable def kRe : CT Tryd.prog Γm := CT.par 91 ofSII (fun | (s, _, _) => s.size ≤ 1000000000) (fun | (s, a, b) => [.v (.string s), .v (.int .i64 a), .v (.int .i64 b)]) (fun _ => []) (fun | (s, a, b) => .tup [.v (.int .i64 (rdN s a b)), .v (.int .i64 (rdE s a b))]) (fun _ => []) (fun _ => []) (callFunc_enters Tryd.func91 (by kernel_rfl) (by kernel_rfl)) fun ⟨s, a, b⟩ h => ansRe h
noncomputable def kRr : CT Tryd.prog Γm := CT.par 93 ofSII (fun | (s, _, _) => s.size ≤ 1000000000) (fun | (s, a, b) => [.v (.string s), .v (.int .i64 a), .v (.int .i64 b)]) (fun _ => []) (fun | (s, a, b) => .tup [.v (.int .i64 (rdN s a b)), .v (.int .i64 (rdE s a b))]) (fun _ => []) (fun _ => []) (callFunc_enters Tryd.func93 (by kernel_rfl) (by kernel_rfl)) fun ⟨s, a, b⟩ h => ansRr h
theorem runTP (s r : ByteArray) (L : List Wo) (h : Answers Tryd.prog Γm 90 [.v (.string s), .v (.int .i64 6)] [] (.tup [.hs 0 0 6, .v (.string r), .sb true]) [] [.arr 1 6 (lsF Wo.c L)]) : bodyE (P := Tryd.prog) (Γ := Γm) [CT.at 90 h, kRe, kTx] Lno false 112 [.cell 2 40, .tmp 3] (bodyOf Tryd.f36) [.v (.string s)] [] =
  Tree.chk (cl (LeL [AV.v (Value.string s), AV.v (Value.int IntKind.i64 (6 : Int))] [AV.v (Value.string s), AV.v (Value.int IntKind.i64 (6 : Int))] ∧ LeH [] [])) (Tree.chk (bif !decide
    ((List.getD L (5 : Nat) default).s = ByteArray.mk #[(116 : UInt8), (111 : UInt8)]) then true else bif decide ((List.getD L (1 : Nat) default).s = ByteArray.mk #[]) then true else decide
    ((0 : Int) ≤ IntKind.wrap IntKind.i64 ((↑(ByteArray.size (List.getD L (1 : Nat) default).s) : Int) - (1 : Int))) && decide (IntKind.wrap IntKind.i64 ((↑(ByteArray.size (List.getD L (1 :
    Nat) default).s) : Int) - (1 : Int)) < (↑(ByteArray.size (List.getD L (1 : Nat) default).s) : Int))) (Tree.br (bif !decide ((List.getD L (5 : Nat) default).s = ByteArray.mk #[(116 :
    UInt8), (111 : UInt8)]) then true else bif decide ((List.getD L (1 : Nat) default).s = ByteArray.mk #[]) then true else !decide (sbyte (List.getD L (1 : Nat) default).s (Int.toNat
    (IntKind.wrap IntKind.i64 ((↑(ByteArray.size (List.getD L (1 : Nat) default).s) : Int) - (1 : Int)))) = (58 : Int))) (Tree.leaf (Ans.mk (AV.tup [AV.agg [AV.v (Value.int IntKind.i64 (0 :
    Int)), AV.v (Value.string (ByteArray.mk #[])), AV.v (Value.string (ByteArray.mk #[])), AV.v (Value.string (ByteArray.mk #[])), AV.v (Value.string (ByteArray.mk #[])), AV.v (Value.int
    IntKind.i64 (0 : Int)), AV.v (Value.int IntKind.i64 (0 : Int))], AV.v (Value.int IntKind.i64 (80 : Int))]) [])) (Tree.chk true (Tree.chk true (Tree.chk true (Tree.chk (decide ((↑(0 :
    Nat) : Int) ≤ IntKind.wrap IntKind.i64 ((↑(ByteArray.size (List.getD L (1 : Nat) default).s) : Int) - (1 : Int))) && decide (IntKind.wrap IntKind.i64 ((↑(ByteArray.size (List.getD L (1 :
    Nat) default).s) : Int) - (1 : Int)) ≤ (↑(ByteArray.size (List.getD L (1 : Nat) default).s) : Int))) (Tree.chk (cl (ByteArray.size (ByteArray.extract (List.getD L (1 : Nat) default).s (0
    : Nat) (Int.toNat (IntKind.wrap IntKind.i64 ((↑(ByteArray.size (List.getD L (1 : Nat) default).s) : Int) - (1 : Int))))) ≤ (1000000000 : Nat) ∧ LeL [AV.v (Value.string (ByteArray.extract
    (List.getD L (1 : Nat) default).s (0 : Nat) (Int.toNat (IntKind.wrap IntKind.i64 ((↑(ByteArray.size (List.getD L (1 : Nat) default).s) : Int) - (1 : Int)))))), AV.v (Value.int
    IntKind.i64 (1 : Int)), AV.v (Value.int IntKind.i64 (4611686018427387904 : Int))] [AV.v (Value.string (ByteArray.extract (List.getD L (1 : Nat) default).s (0 : Nat) (Int.toNat
    (IntKind.wrap IntKind.i64 ((↑(ByteArray.size (List.getD L (1 : Nat) default).s) : Int) - (1 : Int)))))), AV.v (Value.int IntKind.i64 (1 : Int)), AV.v (Value.int IntKind.i64
    (4611686018427387904 : Int))] ∧ LeH [] [])) (Tree.br (!decide (rdE (ByteArray.extract (List.getD L (1 : Nat) default).s (0 : Nat) (Int.toNat (IntKind.wrap IntKind.i64 ((↑(ByteArray.size
    (List.getD L (1 : Nat) default).s) : Int) - (1 : Int))))) (1 : Int) (4611686018427387904 : Int) = (0 : Int))) (Tree.chk (bif !decide (rdE (ByteArray.extract (List.getD L (1 : Nat)
    default).s (0 : Nat) (Int.toNat (IntKind.wrap IntKind.i64 ((↑(ByteArray.size (List.getD L (1 : Nat) default).s) : Int) - (1 : Int))))) (1 : Int) (4611686018427387904 : Int) = (0 : Int))
    then true else cl (smallT (Tx.mk (0 : Int) (List.getD L (2 : Nat) default).s (ByteArray.mk #[]) (ByteArray.mk #[]) (ByteArray.mk #[]) (0 : Int) (rdN (ByteArray.extract (List.getD L (1 :
    Nat) default).s (0 : Nat) (Int.toNat (IntKind.wrap IntKind.i64 ((↑(ByteArray.size (List.getD L (1 : Nat) default).s) : Int) - (1 : Int))))) (1 : Int) (4611686018427387904 : Int))) ∧ LeL
    [AV.agg [AV.v (Value.int IntKind.i64 (0 : Int)), AV.v (Value.string (List.getD L (2 : Nat) default).s), AV.v (Value.string (ByteArray.mk #[])), AV.v (Value.string (ByteArray.mk #[])),
    AV.v (Value.string (ByteArray.mk #[])), AV.v (Value.int IntKind.i64 (0 : Int)), AV.v (Value.int IntKind.i64 (rdN (ByteArray.extract (List.getD L (1 : Nat) default).s (0 : Nat) (Int.toNat
    (IntKind.wrap IntKind.i64 ((↑(ByteArray.size (List.getD L (1 : Nat) default).s) : Int) - (1 : Int))))) (1 : Int) (4611686018427387904 : Int)))]] [AV.agg [AV.v (Value.int IntKind.i64 (0 :
    Int)), AV.v (Value.string (List.getD L (2 : Nat) default).s), AV.v (Value.string (ByteArray.mk #[])), AV.v (Value.string (ByteArray.mk #[])), AV.v (Value.string (ByteArray.mk #[])), AV.v
    (Value.int IntKind.i64 (0 : Int)), AV.v (Value.int IntKind.i64 (rdN (ByteArray.extract (List.getD L (1 : Nat) default).s (0 : Nat) (Int.toNat (IntKind.wrap IntKind.i64 ((↑(ByteArray.size
    (List.getD L (1 : Nat) default).s) : Int) - (1 : Int))))) (1 : Int) (4611686018427387904 : Int)))]] ∧ LeH [] [])) (Tree.br (bif !decide (rdE (ByteArray.extract (List.getD L (1 : Nat)
    default).s (0 : Nat) (Int.toNat (IntKind.wrap IntKind.i64 ((↑(ByteArray.size (List.getD L (1 : Nat) default).s) : Int) - (1 : Int))))) (1 : Int) (4611686018427387904 : Int) = (0 : Int))
    then true else !decide (erT (txB (Tx.mk (0 : Int) (List.getD L (2 : Nat) default).s (ByteArray.mk #[]) (ByteArray.mk #[]) (ByteArray.mk #[]) (0 : Int) (rdN (ByteArray.extract (List.getD
    L (1 : Nat) default).s (0 : Nat) (Int.toNat (IntKind.wrap IntKind.i64 ((↑(ByteArray.size (List.getD L (1 : Nat) default).s) : Int) - (1 : Int))))) (1 : Int) (4611686018427387904 :
    Int)))) = (0 : Int))) (Tree.leaf (Ans.mk (AV.tup [AV.agg [AV.v (Value.int IntKind.i64 (0 : Int)), AV.v (Value.string (ByteArray.mk #[])), AV.v (Value.string (ByteArray.mk #[])), AV.v
    (Value.string (ByteArray.mk #[])), AV.v (Value.string (ByteArray.mk #[])), AV.v (Value.int IntKind.i64 (0 : Int)), AV.v (Value.int IntKind.i64 (0 : Int))], AV.v (Value.int IntKind.i64
    (80 : Int))]) [])) (Tree.leaf (Ans.mk (AV.tup [AV.agg [AV.v (Value.int IntKind.i64 (0 : Int)), AV.v (Value.string (List.getD L (2 : Nat) default).s), AV.v (Value.string (ByteArray.mk
    #[])), AV.v (Value.string (ByteArray.mk #[])), AV.v (Value.string (ByteArray.mk #[])), AV.v (Value.int IntKind.i64 (0 : Int)), AV.v (Value.int IntKind.i64 (rdN (ByteArray.extract
    (List.getD L (1 : Nat) default).s (0 : Nat) (Int.toNat (IntKind.wrap IntKind.i64 ((↑(ByteArray.size (List.getD L (1 : Nat) default).s) : Int) - (1 : Int))))) (1 : Int)
    (4611686018427387904 : Int)))], AV.v (Value.int IntKind.i64 (0 : Int))]) [])))) (Tree.chk (bif decide ((List.getD L (0 : Nat) default).s = ByteArray.mk #[(109 : UInt8), (111 : UInt8),
    (118 : UInt8), (101 : UInt8)]) then true else true) (Tree.br (bif decide ((List.getD L (0 : Nat) default).s = ByteArray.mk #[(109 : UInt8), (111 : UInt8), (118 : UInt8), (101 : UInt8)])
    then decide ((List.getD L (3 : Nat) default).s = ByteArray.mk #[(103 : UInt8), (105 : UInt8), (118 : UInt8), (101 : UInt8), (115 : UInt8)]) else false) (Tree.chk true (Tree.chk (cl
    (ByteArray.size (List.getD L (4 : Nat) default).s ≤ (1000000000 : Nat) ∧ LeL [AV.v (Value.string (List.getD L (4 : Nat) default).s), AV.v (Value.int IntKind.i64 (1 : Int)), AV.v
    (Value.int IntKind.i64 (4611686018427387904 : Int))] [AV.v (Value.string (List.getD L (4 : Nat) default).s), AV.v (Value.int IntKind.i64 (1 : Int)), AV.v (Value.int IntKind.i64
    (4611686018427387904 : Int))] ∧ LeH [] [])) (Tree.chk (bif !decide (rdE (List.getD L (4 : Nat) default).s (1 : Int) (4611686018427387904 : Int) = (0 : Int)) then true else cl (smallT
    (Tx.mk (1 : Int) (List.getD L (2 : Nat) default).s r (ByteArray.mk #[]) (ByteArray.mk #[]) (rdN (List.getD L (4 : Nat) default).s (1 : Int) (4611686018427387904 : Int)) (rdN
    (ByteArray.extract (List.getD L (1 : Nat) default).s (0 : Nat) (Int.toNat (IntKind.wrap IntKind.i64 ((↑(ByteArray.size (List.getD L (1 : Nat) default).s) : Int) - (1 : Int))))) (1 : Int)
    (4611686018427387904 : Int))) ∧ LeL [AV.agg [AV.v (Value.int IntKind.i64 (1 : Int)), AV.v (Value.string (List.getD L (2 : Nat) default).s), AV.v (Value.string r), AV.v (Value.string
    (ByteArray.mk #[])), AV.v (Value.string (ByteArray.mk #[])), AV.v (Value.int IntKind.i64 (rdN (List.getD L (4 : Nat) default).s (1 : Int) (4611686018427387904 : Int))), AV.v (Value.int
    IntKind.i64 (rdN (ByteArray.extract (List.getD L (1 : Nat) default).s (0 : Nat) (Int.toNat (IntKind.wrap IntKind.i64 ((↑(ByteArray.size (List.getD L (1 : Nat) default).s) : Int) - (1 :
    Int))))) (1 : Int) (4611686018427387904 : Int)))]] [AV.agg [AV.v (Value.int IntKind.i64 (1 : Int)), AV.v (Value.string (List.getD L (2 : Nat) default).s), AV.v (Value.string r), AV.v
    (Value.string (ByteArray.mk #[])), AV.v (Value.string (ByteArray.mk #[])), AV.v (Value.int IntKind.i64 (rdN (List.getD L (4 : Nat) default).s (1 : Int) (4611686018427387904 : Int))),
    AV.v (Value.int IntKind.i64 (rdN (ByteArray.extract (List.getD L (1 : Nat) default).s (0 : Nat) (Int.toNat (IntKind.wrap IntKind.i64 ((↑(ByteArray.size (List.getD L (1 : Nat) default).s)
    : Int) - (1 : Int))))) (1 : Int) (4611686018427387904 : Int)))]] ∧ LeH [] [])) (Tree.br (bif !decide (rdE (List.getD L (4 : Nat) default).s (1 : Int) (4611686018427387904 : Int) = (0 :
    Int)) then true else !decide (erT (txB (Tx.mk (1 : Int) (List.getD L (2 : Nat) default).s r (ByteArray.mk #[]) (ByteArray.mk #[]) (rdN (List.getD L (4 : Nat) default).s (1 : Int)
    (4611686018427387904 : Int)) (rdN (ByteArray.extract (List.getD L (1 : Nat) default).s (0 : Nat) (Int.toNat (IntKind.wrap IntKind.i64 ((↑(ByteArray.size (List.getD L (1 : Nat)
    default).s) : Int) - (1 : Int))))) (1 : Int) (4611686018427387904 : Int)))) = (0 : Int))) (Tree.leaf (Ans.mk (AV.tup [AV.agg [AV.v (Value.int IntKind.i64 (0 : Int)), AV.v (Value.string
    (ByteArray.mk #[])), AV.v (Value.string (ByteArray.mk #[])), AV.v (Value.string (ByteArray.mk #[])), AV.v (Value.string (ByteArray.mk #[])), AV.v (Value.int IntKind.i64 (0 : Int)), AV.v
    (Value.int IntKind.i64 (0 : Int))], AV.v (Value.int IntKind.i64 (80 : Int))]) [])) (Tree.leaf (Ans.mk (AV.tup [AV.agg [AV.v (Value.int IntKind.i64 (1 : Int)), AV.v (Value.string
    (List.getD L (2 : Nat) default).s), AV.v (Value.string r), AV.v (Value.string (ByteArray.mk #[])), AV.v (Value.string (ByteArray.mk #[])), AV.v (Value.int IntKind.i64 (rdN (List.getD L
    (4 : Nat) default).s (1 : Int) (4611686018427387904 : Int))), AV.v (Value.int IntKind.i64 (rdN (ByteArray.extract (List.getD L (1 : Nat) default).s (0 : Nat) (Int.toNat (IntKind.wrap
    IntKind.i64 ((↑(ByteArray.size (List.getD L (1 : Nat) default).s) : Int) - (1 : Int))))) (1 : Int) (4611686018427387904 : Int)))], AV.v (Value.int IntKind.i64 (0 : Int))]) []))))))
    (Tree.chk (bif decide ((List.getD L (0 : Nat) default).s = ByteArray.mk #[(112 : UInt8), (117 : UInt8), (116 : UInt8)]) then true else true) (Tree.br (bif decide ((List.getD L (0 : Nat)
    default).s = ByteArray.mk #[(112 : UInt8), (117 : UInt8), (116 : UInt8)]) then decide ((List.getD L (3 : Nat) default).s = ByteArray.mk #[(115 : UInt8), (101 : UInt8), (116 : UInt8),
    (115 : UInt8)]) else false) (Tree.chk true (Tree.chk (bif !decide (rdE (ByteArray.extract (List.getD L (1 : Nat) default).s (0 : Nat) (Int.toNat (IntKind.wrap IntKind.i64
    ((↑(ByteArray.size (List.getD L (1 : Nat) default).s) : Int) - (1 : Int))))) (1 : Int) (4611686018427387904 : Int) = (0 : Int)) then true else cl (smallT (Tx.mk (2 : Int) (List.getD L (2
    : Nat) default).s (ByteArray.mk #[]) (List.getD L (4 : Nat) default).s r (0 : Int) (rdN (ByteArray.extract (List.getD L (1 : Nat) default).s (0 : Nat) (Int.toNat (IntKind.wrap
    IntKind.i64 ((↑(ByteArray.size (List.getD L (1 : Nat) default).s) : Int) - (1 : Int))))) (1 : Int) (4611686018427387904 : Int))) ∧ LeL [AV.agg [AV.v (Value.int IntKind.i64 (2 : Int)),
    AV.v (Value.string (List.getD L (2 : Nat) default).s), AV.v (Value.string (ByteArray.mk #[])), AV.v (Value.string (List.getD L (4 : Nat) default).s), AV.v (Value.string r), AV.v
    (Value.int IntKind.i64 (0 : Int)), AV.v (Value.int IntKind.i64 (rdN (ByteArray.extract (List.getD L (1 : Nat) default).s (0 : Nat) (Int.toNat (IntKind.wrap IntKind.i64 ((↑(ByteArray.size
    (List.getD L (1 : Nat) default).s) : Int) - (1 : Int))))) (1 : Int) (4611686018427387904 : Int)))]] [AV.agg [AV.v (Value.int IntKind.i64 (2 : Int)), AV.v (Value.string (List.getD L (2 :
    Nat) default).s), AV.v (Value.string (ByteArray.mk #[])), AV.v (Value.string (List.getD L (4 : Nat) default).s), AV.v (Value.string r), AV.v (Value.int IntKind.i64 (0 : Int)), AV.v
    (Value.int IntKind.i64 (rdN (ByteArray.extract (List.getD L (1 : Nat) default).s (0 : Nat) (Int.toNat (IntKind.wrap IntKind.i64 ((↑(ByteArray.size (List.getD L (1 : Nat) default).s) :
    Int) - (1 : Int))))) (1 : Int) (4611686018427387904 : Int)))]] ∧ LeH [] [])) (Tree.br (bif !decide (rdE (ByteArray.extract (List.getD L (1 : Nat) default).s (0 : Nat) (Int.toNat
    (IntKind.wrap IntKind.i64 ((↑(ByteArray.size (List.getD L (1 : Nat) default).s) : Int) - (1 : Int))))) (1 : Int) (4611686018427387904 : Int) = (0 : Int)) then true else !decide (erT (txB
    (Tx.mk (2 : Int) (List.getD L (2 : Nat) default).s (ByteArray.mk #[]) (List.getD L (4 : Nat) default).s r (0 : Int) (rdN (ByteArray.extract (List.getD L (1 : Nat) default).s (0 : Nat)
    (Int.toNat (IntKind.wrap IntKind.i64 ((↑(ByteArray.size (List.getD L (1 : Nat) default).s) : Int) - (1 : Int))))) (1 : Int) (4611686018427387904 : Int)))) = (0 : Int))) (Tree.leaf
    (Ans.mk (AV.tup [AV.agg [AV.v (Value.int IntKind.i64 (0 : Int)), AV.v (Value.string (ByteArray.mk #[])), AV.v (Value.string (ByteArray.mk #[])), AV.v (Value.string (ByteArray.mk #[])),
    AV.v (Value.string (ByteArray.mk #[])), AV.v (Value.int IntKind.i64 (0 : Int)), AV.v (Value.int IntKind.i64 (0 : Int))], AV.v (Value.int IntKind.i64 (80 : Int))]) [])) (Tree.leaf (Ans.mk
    (AV.tup [AV.agg [AV.v (Value.int IntKind.i64 (2 : Int)), AV.v (Value.string (List.getD L (2 : Nat) default).s), AV.v (Value.string (ByteArray.mk #[])), AV.v (Value.string (List.getD L (4
    : Nat) default).s), AV.v (Value.string r), AV.v (Value.int IntKind.i64 (0 : Int)), AV.v (Value.int IntKind.i64 (rdN (ByteArray.extract (List.getD L (1 : Nat) default).s (0 : Nat)
    (Int.toNat (IntKind.wrap IntKind.i64 ((↑(ByteArray.size (List.getD L (1 : Nat) default).s) : Int) - (1 : Int))))) (1 : Int) (4611686018427387904 : Int)))], AV.v (Value.int IntKind.i64 (0
    : Int))]) []))))) (Tree.chk true (Tree.br true (Tree.leaf (Ans.mk (AV.tup [AV.agg [AV.v (Value.int IntKind.i64 (0 : Int)), AV.v (Value.string (ByteArray.mk #[])), AV.v (Value.string
    (ByteArray.mk #[])), AV.v (Value.string (ByteArray.mk #[])), AV.v (Value.string (ByteArray.mk #[])), AV.v (Value.int IntKind.i64 (0 : Int)), AV.v (Value.int IntKind.i64 (0 : Int))], AV.v
    (Value.int IntKind.i64 (80 : Int))]) [])) (Tree.leaf (Ans.mk (AV.tup [AV.agg [AV.v (Value.int IntKind.i64 (0 : Int)), AV.v (Value.string (List.getD L (2 : Nat) default).s), AV.v
    (Value.string (ByteArray.mk #[])), AV.v (Value.string (ByteArray.mk #[])), AV.v (Value.string (ByteArray.mk #[])), AV.v (Value.int IntKind.i64 (0 : Int)), AV.v (Value.int IntKind.i64
    (rdN (ByteArray.extract (List.getD L (1 : Nat) default).s (0 : Nat) (Int.toNat (IntKind.wrap IntKind.i64 ((↑(ByteArray.size (List.getD L (1 : Nat) default).s) : Int) - (1 : Int))))) (1 :
    Int) (4611686018427387904 : Int)))], AV.v (Value.int IntKind.i64 (0 : Int))]) [])))))))))))))))) := by kernel_rfl
theorem runTE (s : ByteArray) (h : Answers Tryd.prog Γm 90 [.v (.string s), .v (.int .i64 6)] [] (.tup [.v (.slice none 0 0), .v (.string ⟨#[]⟩), .sb false]) [] []) : bodyE (P := Tryd.prog) (Γ := Γm) [CT.at 90 h, kRe, kTx] Lno false 112 [.cell 2 40, .tmp 3] (bodyOf Tryd.f36) [.v (.string s)] [] =
  Tree.chk (cl (LeL [AV.v (Value.string s), AV.v (Value.int IntKind.i64 (6 : Int))] [AV.v (Value.string s), AV.v (Value.int IntKind.i64 (6 : Int))] ∧ LeH [] [])) (Tree.br true (Tree.leaf
    (Ans.mk (AV.tup [AV.agg [AV.v (Value.int IntKind.i64 (0 : Int)), AV.v (Value.string (ByteArray.mk #[])), AV.v (Value.string (ByteArray.mk #[])), AV.v (Value.string (ByteArray.mk #[])),
    AV.v (Value.string (ByteArray.mk #[])), AV.v (Value.int IntKind.i64 (0 : Int)), AV.v (Value.int IntKind.i64 (0 : Int))], AV.v (Value.int IntKind.i64 (80 : Int))]) [])) Tree.fail) := by kernel_rfl
theorem runRP (s : ByteArray) (D : List Wo) (q : Nat) : bodyE (P := Tryd.prog) (Γ := Γm) [kRr, kTxR] (fun _ => LSpec.at lvP6 [] (S6 s ⟨[], 0⟩) (O6w s (some (D, q)))) false 110 [.cell 2 40, .tmp 3] (bodyOf Tryd.f37) [.v (.string s)] [] =
  Tree.chk (cl (LeL [AV.v (Value.string s), AV.ptr (0 : Nat) (0 : Nat), AV.v (Value.bool false), AV.ap (1 : Nat), AV.v (Value.int IntKind.i64 (0 : Int))] [AV.v (Value.string (ByteArray.extract
    s (0 : Nat) (ByteArray.size s))), AV.ptr (0 : Nat) (0 : Nat), AV.any, AV.ap (1 : Nat), AV.v (Value.int IntKind.i64 (↑(0 : Nat) : Int))] ∧ LeH [some (Blk.row [AV.v (Value.int IntKind.i64
    (0 : Int)), AV.v (Value.string (ByteArray.mk #[])), AV.v (Value.string (ByteArray.mk #[])), AV.v (Value.string (ByteArray.mk #[])), AV.v (Value.string (ByteArray.mk #[])), AV.v
    (Value.int IntKind.i64 (0 : Int)), AV.v (Value.int IntKind.i64 (0 : Int))]), some (Blk.arr (1 : Nat) (6 : Nat) fun x => [AV.v (Value.string (bif Nat.beq x (0 : Nat) then ByteArray.mk #[]
    else bif Nat.beq x (1 : Nat) then ByteArray.mk #[] else bif Nat.beq x (2 : Nat) then ByteArray.mk #[] else bif Nat.beq x (3 : Nat) then ByteArray.mk #[] else bif Nat.beq x (4 : Nat) then
    ByteArray.mk #[] else bif Nat.beq x (5 : Nat) then ByteArray.mk #[] else ByteArray.mk #[]))])] [some (Blk.row [AV.v (Value.int IntKind.i64 (0 : Int)), AV.v (Value.string (ByteArray.mk
    #[])), AV.v (Value.string (ByteArray.mk #[])), AV.v (Value.string (ByteArray.mk #[])), AV.v (Value.string (ByteArray.mk #[])), AV.v (Value.int IntKind.i64 (0 : Int)), AV.v (Value.int
    IntKind.i64 (0 : Int))]), some (Blk.arr (1 : Nat) (6 : Nat) (lsF Wo.c (X6.mk (List.length (Y6.mk [] (0 : Nat)).D) (ByteArray.extract s (Y6.mk [] (0 : Nat)).q (ByteArray.size s)) ((Y6.mk
    [] (0 : Nat)).D ++ List.replicate ((6 : Nat) - List.length (Y6.mk [] (0 : Nat)).D) default)).L))])) (Tree.chk true (Tree.chk (bif decide ((↑(ByteArray.size (List.getD D (Int.toNat (1 :
    Int)) default).s) : Int) < (2 : Int)) then true else decide ((0 : Int) ≤ IntKind.wrap IntKind.i64 ((↑(ByteArray.size (List.getD D (Int.toNat (1 : Int)) default).s) : Int) - (1 : Int)))
    && decide (IntKind.wrap IntKind.i64 ((↑(ByteArray.size (List.getD D (Int.toNat (1 : Int)) default).s) : Int) - (1 : Int)) < (↑(ByteArray.size (List.getD D (Int.toNat (1 : Int))
    default).s) : Int)) && bif !decide (sbyte (List.getD D (Int.toNat (1 : Int)) default).s (Int.toNat (IntKind.wrap IntKind.i64 ((↑(ByteArray.size (List.getD D (Int.toNat (1 : Int))
    default).s) : Int) - (1 : Int)))) = (58 : Int)) then true else true) (Tree.br (bif decide ((↑(ByteArray.size (List.getD D (Int.toNat (1 : Int)) default).s) : Int) < (2 : Int)) then true
    else bif !decide (sbyte (List.getD D (Int.toNat (1 : Int)) default).s (Int.toNat (IntKind.wrap IntKind.i64 ((↑(ByteArray.size (List.getD D (Int.toNat (1 : Int)) default).s) : Int) - (1 :
    Int)))) = (58 : Int)) then true else !decide ((List.getD D (Int.toNat (5 : Int)) default).s = ByteArray.mk #[(116 : UInt8), (111 : UInt8)])) (Tree.leaf (Ans.mk (AV.tup [AV.agg [AV.v
    (Value.int IntKind.i64 (0 : Int)), AV.v (Value.string (ByteArray.mk #[])), AV.v (Value.string (ByteArray.mk #[])), AV.v (Value.string (ByteArray.mk #[])), AV.v (Value.string
    (ByteArray.mk #[])), AV.v (Value.int IntKind.i64 (0 : Int)), AV.v (Value.int IntKind.i64 (0 : Int))], AV.v (Value.bool false)]) [])) (Tree.chk (decide ((↑(0 : Nat) : Int) ≤ IntKind.wrap
    IntKind.i64 ((↑(ByteArray.size (List.getD D (Int.toNat (1 : Int)) default).s) : Int) - (1 : Int))) && decide (IntKind.wrap IntKind.i64 ((↑(ByteArray.size (List.getD D (Int.toNat (1 :
    Int)) default).s) : Int) - (1 : Int)) ≤ (↑(ByteArray.size (List.getD D (Int.toNat (1 : Int)) default).s) : Int)) && cl (ByteArray.size (ByteArray.extract (List.getD D (Int.toNat (1 :
    Int)) default).s (0 : Nat) (Int.toNat (IntKind.wrap IntKind.i64 ((↑(ByteArray.size (List.getD D (Int.toNat (1 : Int)) default).s) : Int) - (1 : Int))))) ≤ (1000000000 : Nat) ∧ LeL [AV.v
    (Value.string (ByteArray.extract (List.getD D (Int.toNat (1 : Int)) default).s (0 : Nat) (Int.toNat (IntKind.wrap IntKind.i64 ((↑(ByteArray.size (List.getD D (Int.toNat (1 : Int))
    default).s) : Int) - (1 : Int)))))), AV.v (Value.int IntKind.i64 (1 : Int)), AV.v (Value.int IntKind.i64 (4611686018427387904 : Int))] [AV.v (Value.string (ByteArray.extract (List.getD D
    (Int.toNat (1 : Int)) default).s (0 : Nat) (Int.toNat (IntKind.wrap IntKind.i64 ((↑(ByteArray.size (List.getD D (Int.toNat (1 : Int)) default).s) : Int) - (1 : Int)))))), AV.v (Value.int
    IntKind.i64 (1 : Int)), AV.v (Value.int IntKind.i64 (4611686018427387904 : Int))] ∧ LeH [] [])) (Tree.br (!decide (rdE (ByteArray.extract (List.getD D (Int.toNat (1 : Int)) default).s (0
    : Nat) (Int.toNat (IntKind.wrap IntKind.i64 ((↑(ByteArray.size (List.getD D (Int.toNat (1 : Int)) default).s) : Int) - (1 : Int))))) (1 : Int) (4611686018427387904 : Int) = (0 : Int)))
    (Tree.leaf (Ans.mk (AV.tup [AV.agg [AV.v (Value.int IntKind.i64 (0 : Int)), AV.v (Value.string (ByteArray.mk #[])), AV.v (Value.string (ByteArray.mk #[])), AV.v (Value.string
    (ByteArray.mk #[])), AV.v (Value.string (ByteArray.mk #[])), AV.v (Value.int IntKind.i64 (0 : Int)), AV.v (Value.int IntKind.i64 (0 : Int))], AV.v (Value.bool false)]) [])) (Tree.chk
    true (Tree.chk (bif decide ((List.getD D (Int.toNat (0 : Int)) default).s = ByteArray.mk #[(109 : UInt8), (111 : UInt8), (118 : UInt8), (101 : UInt8)]) then true else true) (Tree.br (bif
    decide ((List.getD D (Int.toNat (0 : Int)) default).s = ByteArray.mk #[(109 : UInt8), (111 : UInt8), (118 : UInt8), (101 : UInt8)]) then decide ((List.getD D (Int.toNat (3 : Int))
    default).s = ByteArray.mk #[(103 : UInt8), (105 : UInt8), (118 : UInt8), (101 : UInt8), (115 : UInt8)]) else false) (Tree.chk (cl (ByteArray.size (List.getD D (Int.toNat (4 : Int))
    default).s ≤ (1000000000 : Nat) ∧ LeL [AV.v (Value.string (List.getD D (Int.toNat (4 : Int)) default).s), AV.v (Value.int IntKind.i64 (1 : Int)), AV.v (Value.int IntKind.i64
    (4611686018427387904 : Int))] [AV.v (Value.string (List.getD D (Int.toNat (4 : Int)) default).s), AV.v (Value.int IntKind.i64 (1 : Int)), AV.v (Value.int IntKind.i64 (4611686018427387904
    : Int))] ∧ LeH [] [])) (Tree.br (!decide (rdE (List.getD D (Int.toNat (4 : Int)) default).s (1 : Int) (4611686018427387904 : Int) = (0 : Int))) (Tree.leaf (Ans.mk (AV.tup [AV.agg [AV.v
    (Value.int IntKind.i64 (0 : Int)), AV.v (Value.string (ByteArray.mk #[])), AV.v (Value.string (ByteArray.mk #[])), AV.v (Value.string (ByteArray.mk #[])), AV.v (Value.string
    (ByteArray.mk #[])), AV.v (Value.int IntKind.i64 (0 : Int)), AV.v (Value.int IntKind.i64 (0 : Int))], AV.v (Value.bool false)]) [])) (Tree.chk (cl (smallT (Tx.mk (1 : Int) (List.getD D
    (Int.toNat (2 : Int)) default).s (ByteArray.extract s q (ByteArray.size s)) (ByteArray.mk #[]) (ByteArray.mk #[]) (rdN (List.getD D (Int.toNat (4 : Int)) default).s (1 : Int)
    (4611686018427387904 : Int)) (rdN (ByteArray.extract (List.getD D (Int.toNat (1 : Int)) default).s (0 : Nat) (Int.toNat (IntKind.wrap IntKind.i64 ((↑(ByteArray.size (List.getD D
    (Int.toNat (1 : Int)) default).s) : Int) - (1 : Int))))) (1 : Int) (4611686018427387904 : Int))) ∧ LeL [AV.agg [AV.v (Value.int IntKind.i64 (1 : Int)), AV.v (Value.string (List.getD D
    (Int.toNat (2 : Int)) default).s), AV.v (Value.string (ByteArray.extract s q (ByteArray.size s))), AV.v (Value.string (ByteArray.mk #[])), AV.v (Value.string (ByteArray.mk #[])), AV.v
    (Value.int IntKind.i64 (rdN (List.getD D (Int.toNat (4 : Int)) default).s (1 : Int) (4611686018427387904 : Int))), AV.v (Value.int IntKind.i64 (rdN (ByteArray.extract (List.getD D
    (Int.toNat (1 : Int)) default).s (0 : Nat) (Int.toNat (IntKind.wrap IntKind.i64 ((↑(ByteArray.size (List.getD D (Int.toNat (1 : Int)) default).s) : Int) - (1 : Int))))) (1 : Int)
    (4611686018427387904 : Int)))]] [AV.agg [AV.v (Value.int IntKind.i64 (1 : Int)), AV.v (Value.string (List.getD D (Int.toNat (2 : Int)) default).s), AV.v (Value.string (ByteArray.extract
    s q (ByteArray.size s))), AV.v (Value.string (ByteArray.mk #[])), AV.v (Value.string (ByteArray.mk #[])), AV.v (Value.int IntKind.i64 (rdN (List.getD D (Int.toNat (4 : Int)) default).s
    (1 : Int) (4611686018427387904 : Int))), AV.v (Value.int IntKind.i64 (rdN (ByteArray.extract (List.getD D (Int.toNat (1 : Int)) default).s (0 : Nat) (Int.toNat (IntKind.wrap IntKind.i64
    ((↑(ByteArray.size (List.getD D (Int.toNat (1 : Int)) default).s) : Int) - (1 : Int))))) (1 : Int) (4611686018427387904 : Int)))]] ∧ LeH [] [])) (Tree.br (!txB (Tx.mk (1 : Int)
    (List.getD D (Int.toNat (2 : Int)) default).s (ByteArray.extract s q (ByteArray.size s)) (ByteArray.mk #[]) (ByteArray.mk #[]) (rdN (List.getD D (Int.toNat (4 : Int)) default).s (1 :
    Int) (4611686018427387904 : Int)) (rdN (ByteArray.extract (List.getD D (Int.toNat (1 : Int)) default).s (0 : Nat) (Int.toNat (IntKind.wrap IntKind.i64 ((↑(ByteArray.size (List.getD D
    (Int.toNat (1 : Int)) default).s) : Int) - (1 : Int))))) (1 : Int) (4611686018427387904 : Int)))) (Tree.leaf (Ans.mk (AV.tup [AV.agg [AV.v (Value.int IntKind.i64 (0 : Int)), AV.v
    (Value.string (ByteArray.mk #[])), AV.v (Value.string (ByteArray.mk #[])), AV.v (Value.string (ByteArray.mk #[])), AV.v (Value.string (ByteArray.mk #[])), AV.v (Value.int IntKind.i64 (0
    : Int)), AV.v (Value.int IntKind.i64 (0 : Int))], AV.v (Value.bool false)]) [])) (Tree.leaf (Ans.mk (AV.tup [AV.agg [AV.v (Value.int IntKind.i64 (1 : Int)), AV.v (Value.string (List.getD
    D (Int.toNat (2 : Int)) default).s), AV.v (Value.string (ByteArray.extract s q (ByteArray.size s))), AV.v (Value.string (ByteArray.mk #[])), AV.v (Value.string (ByteArray.mk #[])), AV.v
    (Value.int IntKind.i64 (rdN (List.getD D (Int.toNat (4 : Int)) default).s (1 : Int) (4611686018427387904 : Int))), AV.v (Value.int IntKind.i64 (rdN (ByteArray.extract (List.getD D
    (Int.toNat (1 : Int)) default).s (0 : Nat) (Int.toNat (IntKind.wrap IntKind.i64 ((↑(ByteArray.size (List.getD D (Int.toNat (1 : Int)) default).s) : Int) - (1 : Int))))) (1 : Int)
    (4611686018427387904 : Int)))], AV.v (Value.bool true)]) [])))))) (Tree.chk (bif decide ((List.getD D (Int.toNat (0 : Int)) default).s = ByteArray.mk #[(112 : UInt8), (117 : UInt8), (116
    : UInt8)]) then true else true) (Tree.br (bif decide ((List.getD D (Int.toNat (0 : Int)) default).s = ByteArray.mk #[(112 : UInt8), (117 : UInt8), (116 : UInt8)]) then decide ((List.getD
    D (Int.toNat (3 : Int)) default).s = ByteArray.mk #[(115 : UInt8), (101 : UInt8), (116 : UInt8), (115 : UInt8)]) else false) (Tree.chk true (Tree.chk (cl (smallT (Tx.mk (2 : Int)
    (List.getD D (Int.toNat (2 : Int)) default).s (ByteArray.mk #[]) (List.getD D (Int.toNat (4 : Int)) default).s (ByteArray.extract s q (ByteArray.size s)) (0 : Int) (rdN
    (ByteArray.extract (List.getD D (Int.toNat (1 : Int)) default).s (0 : Nat) (Int.toNat (IntKind.wrap IntKind.i64 ((↑(ByteArray.size (List.getD D (Int.toNat (1 : Int)) default).s) : Int) -
    (1 : Int))))) (1 : Int) (4611686018427387904 : Int))) ∧ LeL [AV.agg [AV.v (Value.int IntKind.i64 (2 : Int)), AV.v (Value.string (List.getD D (Int.toNat (2 : Int)) default).s), AV.v
    (Value.string (ByteArray.mk #[])), AV.v (Value.string (List.getD D (Int.toNat (4 : Int)) default).s), AV.v (Value.string (ByteArray.extract s q (ByteArray.size s))), AV.v (Value.int
    IntKind.i64 (0 : Int)), AV.v (Value.int IntKind.i64 (rdN (ByteArray.extract (List.getD D (Int.toNat (1 : Int)) default).s (0 : Nat) (Int.toNat (IntKind.wrap IntKind.i64
    ((↑(ByteArray.size (List.getD D (Int.toNat (1 : Int)) default).s) : Int) - (1 : Int))))) (1 : Int) (4611686018427387904 : Int)))]] [AV.agg [AV.v (Value.int IntKind.i64 (2 : Int)), AV.v
    (Value.string (List.getD D (Int.toNat (2 : Int)) default).s), AV.v (Value.string (ByteArray.mk #[])), AV.v (Value.string (List.getD D (Int.toNat (4 : Int)) default).s), AV.v
    (Value.string (ByteArray.extract s q (ByteArray.size s))), AV.v (Value.int IntKind.i64 (0 : Int)), AV.v (Value.int IntKind.i64 (rdN (ByteArray.extract (List.getD D (Int.toNat (1 : Int))
    default).s (0 : Nat) (Int.toNat (IntKind.wrap IntKind.i64 ((↑(ByteArray.size (List.getD D (Int.toNat (1 : Int)) default).s) : Int) - (1 : Int))))) (1 : Int) (4611686018427387904 :
    Int)))]] ∧ LeH [] [])) (Tree.br (!txB (Tx.mk (2 : Int) (List.getD D (Int.toNat (2 : Int)) default).s (ByteArray.mk #[]) (List.getD D (Int.toNat (4 : Int)) default).s (ByteArray.extract s
    q (ByteArray.size s)) (0 : Int) (rdN (ByteArray.extract (List.getD D (Int.toNat (1 : Int)) default).s (0 : Nat) (Int.toNat (IntKind.wrap IntKind.i64 ((↑(ByteArray.size (List.getD D
    (Int.toNat (1 : Int)) default).s) : Int) - (1 : Int))))) (1 : Int) (4611686018427387904 : Int)))) (Tree.leaf (Ans.mk (AV.tup [AV.agg [AV.v (Value.int IntKind.i64 (0 : Int)), AV.v
    (Value.string (ByteArray.mk #[])), AV.v (Value.string (ByteArray.mk #[])), AV.v (Value.string (ByteArray.mk #[])), AV.v (Value.string (ByteArray.mk #[])), AV.v (Value.int IntKind.i64 (0
    : Int)), AV.v (Value.int IntKind.i64 (0 : Int))], AV.v (Value.bool false)]) [])) (Tree.leaf (Ans.mk (AV.tup [AV.agg [AV.v (Value.int IntKind.i64 (2 : Int)), AV.v (Value.string (List.getD
    D (Int.toNat (2 : Int)) default).s), AV.v (Value.string (ByteArray.mk #[])), AV.v (Value.string (List.getD D (Int.toNat (4 : Int)) default).s), AV.v (Value.string (ByteArray.extract s q
    (ByteArray.size s))), AV.v (Value.int IntKind.i64 (0 : Int)), AV.v (Value.int IntKind.i64 (rdN (ByteArray.extract (List.getD D (Int.toNat (1 : Int)) default).s (0 : Nat) (Int.toNat
    (IntKind.wrap IntKind.i64 ((↑(ByteArray.size (List.getD D (Int.toNat (1 : Int)) default).s) : Int) - (1 : Int))))) (1 : Int) (4611686018427387904 : Int)))], AV.v (Value.bool true)])
    []))))) (Tree.chk (cl (smallT (Tx.mk (0 : Int) (List.getD D (Int.toNat (2 : Int)) default).s (ByteArray.mk #[]) (ByteArray.mk #[]) (ByteArray.mk #[]) (0 : Int) (rdN (ByteArray.extract
    (List.getD D (Int.toNat (1 : Int)) default).s (0 : Nat) (Int.toNat (IntKind.wrap IntKind.i64 ((↑(ByteArray.size (List.getD D (Int.toNat (1 : Int)) default).s) : Int) - (1 : Int))))) (1 :
    Int) (4611686018427387904 : Int))) ∧ LeL [AV.agg [AV.v (Value.int IntKind.i64 (0 : Int)), AV.v (Value.string (List.getD D (Int.toNat (2 : Int)) default).s), AV.v (Value.string
    (ByteArray.mk #[])), AV.v (Value.string (ByteArray.mk #[])), AV.v (Value.string (ByteArray.mk #[])), AV.v (Value.int IntKind.i64 (0 : Int)), AV.v (Value.int IntKind.i64 (rdN
    (ByteArray.extract (List.getD D (Int.toNat (1 : Int)) default).s (0 : Nat) (Int.toNat (IntKind.wrap IntKind.i64 ((↑(ByteArray.size (List.getD D (Int.toNat (1 : Int)) default).s) : Int) -
    (1 : Int))))) (1 : Int) (4611686018427387904 : Int)))]] [AV.agg [AV.v (Value.int IntKind.i64 (0 : Int)), AV.v (Value.string (List.getD D (Int.toNat (2 : Int)) default).s), AV.v
    (Value.string (ByteArray.mk #[])), AV.v (Value.string (ByteArray.mk #[])), AV.v (Value.string (ByteArray.mk #[])), AV.v (Value.int IntKind.i64 (0 : Int)), AV.v (Value.int IntKind.i64
    (rdN (ByteArray.extract (List.getD D (Int.toNat (1 : Int)) default).s (0 : Nat) (Int.toNat (IntKind.wrap IntKind.i64 ((↑(ByteArray.size (List.getD D (Int.toNat (1 : Int)) default).s) :
    Int) - (1 : Int))))) (1 : Int) (4611686018427387904 : Int)))]] ∧ LeH [] [])) (Tree.br (!txB (Tx.mk (0 : Int) (List.getD D (Int.toNat (2 : Int)) default).s (ByteArray.mk #[])
    (ByteArray.mk #[]) (ByteArray.mk #[]) (0 : Int) (rdN (ByteArray.extract (List.getD D (Int.toNat (1 : Int)) default).s (0 : Nat) (Int.toNat (IntKind.wrap IntKind.i64 ((↑(ByteArray.size
    (List.getD D (Int.toNat (1 : Int)) default).s) : Int) - (1 : Int))))) (1 : Int) (4611686018427387904 : Int)))) (Tree.leaf (Ans.mk (AV.tup [AV.agg [AV.v (Value.int IntKind.i64 (0 : Int)),
    AV.v (Value.string (ByteArray.mk #[])), AV.v (Value.string (ByteArray.mk #[])), AV.v (Value.string (ByteArray.mk #[])), AV.v (Value.string (ByteArray.mk #[])), AV.v (Value.int
    IntKind.i64 (0 : Int)), AV.v (Value.int IntKind.i64 (0 : Int))], AV.v (Value.bool false)]) [])) (Tree.leaf (Ans.mk (AV.tup [AV.agg [AV.v (Value.int IntKind.i64 (0 : Int)), AV.v
    (Value.string (List.getD D (Int.toNat (2 : Int)) default).s), AV.v (Value.string (ByteArray.mk #[])), AV.v (Value.string (ByteArray.mk #[])), AV.v (Value.string (ByteArray.mk #[])), AV.v
    (Value.int IntKind.i64 (0 : Int)), AV.v (Value.int IntKind.i64 (rdN (ByteArray.extract (List.getD D (Int.toNat (1 : Int)) default).s (0 : Nat) (Int.toNat (IntKind.wrap IntKind.i64
    ((↑(ByteArray.size (List.getD D (Int.toNat (1 : Int)) default).s) : Int) - (1 : Int))))) (1 : Int) (4611686018427387904 : Int)))], AV.v (Value.bool true)]) [])))))))))))))) := by kernel_rfl
theorem runRE (s : ByteArray) : bodyE (P := Tryd.prog) (Γ := Γm) [kRr, kTxR] (fun _ => LSpec.at lvP6 [] (S6 s ⟨[], 0⟩) (O6w s none)) false 110 [.cell 2 40, .tmp 3] (bodyOf Tryd.f37) [.v (.string s)] [] =
  Tree.chk (cl (LeL [AV.v (Value.string s), AV.ptr (0 : Nat) (0 : Nat), AV.v (Value.bool false), AV.ap (1 : Nat), AV.v (Value.int IntKind.i64 (0 : Int))] [AV.v (Value.string (ByteArray.extract
    s (0 : Nat) (ByteArray.size s))), AV.ptr (0 : Nat) (0 : Nat), AV.any, AV.ap (1 : Nat), AV.v (Value.int IntKind.i64 (↑(0 : Nat) : Int))] ∧ LeH [some (Blk.row [AV.v (Value.int IntKind.i64
    (0 : Int)), AV.v (Value.string (ByteArray.mk #[])), AV.v (Value.string (ByteArray.mk #[])), AV.v (Value.string (ByteArray.mk #[])), AV.v (Value.string (ByteArray.mk #[])), AV.v
    (Value.int IntKind.i64 (0 : Int)), AV.v (Value.int IntKind.i64 (0 : Int))]), some (Blk.arr (1 : Nat) (6 : Nat) fun x => [AV.v (Value.string (bif Nat.beq x (0 : Nat) then ByteArray.mk #[]
    else bif Nat.beq x (1 : Nat) then ByteArray.mk #[] else bif Nat.beq x (2 : Nat) then ByteArray.mk #[] else bif Nat.beq x (3 : Nat) then ByteArray.mk #[] else bif Nat.beq x (4 : Nat) then
    ByteArray.mk #[] else bif Nat.beq x (5 : Nat) then ByteArray.mk #[] else ByteArray.mk #[]))])] [some (Blk.row [AV.v (Value.int IntKind.i64 (0 : Int)), AV.v (Value.string (ByteArray.mk
    #[])), AV.v (Value.string (ByteArray.mk #[])), AV.v (Value.string (ByteArray.mk #[])), AV.v (Value.string (ByteArray.mk #[])), AV.v (Value.int IntKind.i64 (0 : Int)), AV.v (Value.int
    IntKind.i64 (0 : Int))]), some (Blk.arr (1 : Nat) (6 : Nat) (lsF Wo.c (X6.mk (List.length (Y6.mk [] (0 : Nat)).D) (ByteArray.extract s (Y6.mk [] (0 : Nat)).q (ByteArray.size s)) ((Y6.mk
    [] (0 : Nat)).D ++ List.replicate ((6 : Nat) - List.length (Y6.mk [] (0 : Nat)).D) default)).L))])) (Tree.leaf (Ans.mk (AV.tup [AV.agg [AV.v (Value.int IntKind.i64 (0 : Int)), AV.v
    (Value.string (ByteArray.mk #[])), AV.v (Value.string (ByteArray.mk #[])), AV.v (Value.string (ByteArray.mk #[])), AV.v (Value.string (ByteArray.mk #[])), AV.v (Value.int IntKind.i64 (0
    : Int)), AV.v (Value.int IntKind.i64 (0 : Int))], AV.v (Value.bool false)]) [])) := by kernel_rfl
end Go.Eng.TA

/- transactions: out of words: both read the same. -/
namespace Go.Eng.TA
open Go Go.Eng Go.Eng.M Go.Lib Go.Proofs
set_option linter.unusedSimpArgs false
set_option linter.unusedVariables false
abbrev e0 : ByteArray := ⟨#[]⟩
def tz : Tx := ⟨0, e0, e0, e0, e0, 0, 0⟩
def n1 (w1 : ByteArray) : ByteArray := w1.extract 0 (w1.size - 1)
def hdB (w1 w5 : ByteArray) : Bool := decide (w5 = ⟨#[116, 111]⟩) && (decide (¬ w1 = e0) && decide (bN w1 (w1.size - 1) = 58))
noncomputable def t1 (w1 w2 w4 r : ByteArray) : Tx := ⟨1, w2, r, e0, e0, rdN w4 1 4611686018427387904, rdN (n1 w1) 1 4611686018427387904⟩
noncomputable def t2 (w1 w2 w4 r : ByteArray) : Tx := ⟨2, w2, e0, w4, r, 0, rdN (n1 w1) 1 4611686018427387904⟩
def mvB (w0 w3 : ByteArray) : Bool := decide (w0 = ⟨#[109, 111, 118, 101]⟩) && decide (w3 = ⟨#[103, 105, 118, 101, 115]⟩)
def ptB (w0 w3 : ByteArray) : Bool := decide (w0 = ⟨#[112, 117, 116]⟩) && decide (w3 = ⟨#[115, 101, 116, 115]⟩)
noncomputable def pT (w0 w1 w2 w3 w4 w5 r : ByteArray) : Option Tx :=
  if hdB w1 w5 = false then none else
  if ¬ rdE (n1 w1) 1 4611686018427387904 = 0 then none else
  if mvB w0 w3 = true then (if rdE w4 1 4611686018427387904 = 0 ∧ txB (t1 w1 w2 w4 r) = true then some (t1 w1 w2 w4 r) else none) else
  if ptB w0 w3 = true then (if txB (t2 w1 w2 w4 r) = true then some (t2 w1 w2 w4 r) else none) else none
def resP (o : Option Tx) : AV := .tup [txV (o.getD tz), .v (.int .i64 (if o.isSome then 0 else 80))]
def resR (o : Option Tx) : AV := .tup [txV (o.getD tz), .sb o.isSome]
theorem rd_empty (lo hi : Int) : ¬ rdE e0 lo hi = 0 := by
  have : fmB e0 = false := by
    rw [Bool.eq_false_iff]
    intro h
    have := (cl_iff.1 h).2.1
    have h2 := bd_le (s := e0)
    have h3 : e0.size = 0 := rfl
    omega
  unfold rdE
  rw [this, if_neg Bool.false_ne_true]
  omega
theorem n1_one {w : ByteArray} (h : w.size = 1) : n1 w = e0 := bN_eq (by unfold n1; rw [ext_size _ _ _ (by omega), h]; rfl) (fun j hj => by
  unfold n1 at hj; rw [ext_size _ _ _ (by omega)] at hj; omega)
theorem ansTP {s r : ByteArray} {L : List Wo} (h : Answers Tryd.prog Γm 90 [.v (.string s), .v (.int .i64 6)] [] (.tup [.hs 0 0 6, .v (.string r), .sb true]) [] [.arr 1 6 (lsF Wo.c L)]) (hr : r.size ≤ 10000000) (hL : ∀ i, (L.getD i default).s.size ≤ 10000000) :
    Answers Tryd.prog Γm 36 [.v (.string s)] [] (resP (pT (L.getD 0 default).s (L.getD 1 default).s (L.getD 2 default).s (L.getD 3 default).s (L.getD 4 default).s (L.getD 5 default).s r)) [] [] := by
  refine answers (fn := Tryd.f36) (c := bodyOf Tryd.f36) (ntmps := 112) (results := [.cell 2 40, .tmp 3]) [CT.at 90 h, kRe, kTx] (Lno) false Tryd.func36 (by kernel_rfl) (by kernel_rfl) (by kernel_rfl) (by kernel_rfl) (by simp) rfl (failOK fun _ _ _ => rfl) <| Meets.of (runTP s r L h) <| ?_
  have s1 := hL 1
  have s2 := hL 2
  have s4 := hL 4
  generalize (L.getD 0 default).s = w0 at *
  generalize (L.getD 1 default).s = w1 at *
  generalize (L.getD 2 default).s = w2 at *
  generalize (L.getD 3 default).s = w3 at *
  generalize (L.getD 4 default).s = w4 at *
  generalize (L.getD 5 default).s = w5 at *
  clear h hL
  have hE : w1 = e0 ↔ w1.size = 0 := emp_size
  have hnz : (n1 w1).size ≤ 1000000000 := by unfold n1; rw [ext_size _ _ _ (by omega)]; omega
  by_cases hd : hdB w1 w5 = true
  · have hd' := hd
    unfold hdB at hd'
    simp only [Bool.and_eq_true, decide_eq_true_eq] at hd'
    obtain ⟨d1, d2, d3⟩ := hd'
    rw [hE] at d2
    have hw : IntKind.wrap IntKind.i64 ((w1.size : Int) - 1) = ((w1.size - 1 : Nat) : Int) := by rw [wrap64 (by omega) (by omega)]; omega
    have hb : sbyte w1 (w1.size - 1) = (58 : Int) := by show ((bN w1 (w1.size - 1) : Nat) : Int) = 58; rw [d3]; rfl
    have q1 : decide (w5 = ⟨#[116, 111]⟩) = true := decide_eq_true d1
    have q2 : decide (w1 = e0) = false := decide_eq_false (by rw [hE]; exact d2)
    have hn : w1.extract 0 (w1.size - 1) = n1 w1 := rfl
    simp only [hw, Int.toNat_natCast, hb, q1, q2, hn]
    have g1 : smallT (t1 w1 w2 w4 r) := ⟨s2, hr, Nat.zero_le _, Nat.zero_le _⟩
    have g2 : smallT (t2 w1 w2 w4 r) := ⟨s2, Nat.zero_le _, s4, hr⟩
    have s4 : w4.size ≤ 1000000000 := by omega
    have et : erT true = 0 := rfl
    have ef : erT false = 80 := rfl
    have x1 : (Tx.mk 1 w2 r e0 e0 (rdN w4 1 4611686018427387904) (rdN (n1 w1) 1 4611686018427387904)) = t1 w1 w2 w4 r := rfl
    have x2 : (Tx.mk 2 w2 e0 w4 r 0 (rdN (n1 w1) 1 4611686018427387904)) = t2 w1 w2 w4 r := rfl
    simp only [x1, x2, condSelf]
    by_cases k1 : rdE (n1 w1) 1 4611686018427387904 = 0
    · have mE : (bif decide (w0 = ⟨#[109, 111, 118, 101]⟩) then decide (w3 = ⟨#[103, 105, 118, 101, 115]⟩) else false) = mvB w0 w3 := by unfold mvB; cases decide (w0 = ⟨#[109, 111, 118, 101]⟩) <;> rfl
      have pE : (bif decide (w0 = ⟨#[112, 117, 116]⟩) then decide (w3 = ⟨#[115, 101, 116, 115]⟩) else false) = ptB w0 w3 := by unfold ptB; cases decide (w0 = ⟨#[112, 117, 116]⟩) <;> rfl
      simp only [mE, pE]
      cases k2 : mvB w0 w3 with
      | true =>
        by_cases k3 : rdE w4 1 4611686018427387904 = 0
        · cases k4 : txB (t1 w1 w2 w4 r) with
          | true =>
            have hp : pT w0 w1 w2 w3 w4 w5 r = some (t1 w1 w2 w4 r) := by unfold pT; simp [hd, k1, k2, k3, k4]
            rw [hp]
            repeat' (first | refine wC (by first | omega | (simp only [W1, cond_true, cond_false, k1, k3, k4, hnz, s4, g1, g2, et, ef]; first | done | omega)) ?_ | refine wT (by first | omega | (simp only [W1, cond_true, cond_false, k1, k3, k4, hnz, s4, g1, g2, et, ef]; first | done | omega)) ?_ | refine wF (by intro _h; first | omega | (simp only [W1, cond_true, cond_false, k1, k3, k4, hnz, s4, g1, g2, et, ef] at _h; first | done | omega)) ?_ | (refine wS ?_ ?_ <;> intro _h <;> simp only [W1, cond_true, cond_false, k1, k3, k4, hnz, s4, g1, g2, et, ef] at _h))
            all_goals simp only [W1, W2, owesN, owesX, owesR, cond_true, cond_false, k1, k3, k4, hnz, s4, g1, g2, et, ef]
            repeat' (first | apply And.intro | intro _hc)
            all_goals first | exact tup2 (.refl _) (leI rfl) | exact AV.le_refl _ | exact AV.le_any _ | exact OLe.refl _ | exact OLe.none _ | exact LeH.refl _ | exact LeL.refl _ | exact AV.le.bs _ | exact AV.le.sb _ | omega | contradiction
          | false =>
            have hp : pT w0 w1 w2 w3 w4 w5 r = none := by unfold pT; simp [hd, k1, k2, k3, k4]
            rw [hp]
            repeat' (first | refine wC (by first | omega | (simp only [W1, cond_true, cond_false, k1, k3, k4, hnz, s4, g1, g2, et, ef]; first | done | omega)) ?_ | refine wT (by first | omega | (simp only [W1, cond_true, cond_false, k1, k3, k4, hnz, s4, g1, g2, et, ef]; first | done | omega)) ?_ | refine wF (by intro _h; first | omega | (simp only [W1, cond_true, cond_false, k1, k3, k4, hnz, s4, g1, g2, et, ef] at _h; first | done | omega)) ?_ | (refine wS ?_ ?_ <;> intro _h <;> simp only [W1, cond_true, cond_false, k1, k3, k4, hnz, s4, g1, g2, et, ef] at _h))
            all_goals simp only [W1, W2, owesN, owesX, owesR, cond_true, cond_false, k1, k3, k4, hnz, s4, g1, g2, et, ef]
            repeat' (first | apply And.intro | intro _hc)
            all_goals first | exact tup2 (.refl _) (leI rfl) | exact AV.le_refl _ | exact AV.le_any _ | exact OLe.refl _ | exact OLe.none _ | exact LeH.refl _ | exact LeL.refl _ | exact AV.le.bs _ | exact AV.le.sb _ | omega | contradiction
        · have hp : pT w0 w1 w2 w3 w4 w5 r = none := by unfold pT; simp [hd, k1, k2, k3]
          rw [hp]
          repeat' (first | refine wC (by first | omega | (simp only [W1, cond_true, cond_false, k1, k3, hnz, s4, g1, g2, et, ef]; first | done | omega)) ?_ | refine wT (by first | omega | (simp only [W1, cond_true, cond_false, k1, k3, hnz, s4, g1, g2, et, ef]; first | done | omega)) ?_ | refine wF (by intro _h; first | omega | (simp only [W1, cond_true, cond_false, k1, k3, hnz, s4, g1, g2, et, ef] at _h; first | done | omega)) ?_ | (refine wS ?_ ?_ <;> intro _h <;> simp only [W1, cond_true, cond_false, k1, k3, hnz, s4, g1, g2, et, ef] at _h))
          all_goals simp only [W1, W2, owesN, owesX, owesR, cond_true, cond_false, k1, k3, hnz, s4, g1, g2, et, ef]
          repeat' (first | apply And.intro | intro _hc)
          all_goals first | exact tup2 (.refl _) (leI rfl) | exact AV.le_refl _ | exact AV.le_any _ | exact OLe.refl _ | exact OLe.none _ | exact LeH.refl _ | exact LeL.refl _ | exact AV.le.bs _ | exact AV.le.sb _ | omega | contradiction
      | false =>
        cases k5 : ptB w0 w3 with
        | true =>
          cases k4 : txB (t2 w1 w2 w4 r) with
          | true =>
            have hp : pT w0 w1 w2 w3 w4 w5 r = some (t2 w1 w2 w4 r) := by unfold pT; simp [hd, k1, k2, k5, k4]
            rw [hp]
            repeat' (first | refine wC (by first | omega | (simp only [W1, cond_true, cond_false, k1, k4, hnz, s4, g1, g2, et, ef]; first | done | omega)) ?_ | refine wT (by first | omega | (simp only [W1, cond_true, cond_false, k1, k4, hnz, s4, g1, g2, et, ef]; first | done | omega)) ?_ | refine wF (by intro _h; first | omega | (simp only [W1, cond_true, cond_false, k1, k4, hnz, s4, g1, g2, et, ef] at _h; first | done | omega)) ?_ | (refine wS ?_ ?_ <;> intro _h <;> simp only [W1, cond_true, cond_false, k1, k4, hnz, s4, g1, g2, et, ef] at _h))
            all_goals simp only [W1, W2, owesN, owesX, owesR, cond_true, cond_false, k1, k4, hnz, s4, g1, g2, et, ef]
            repeat' (first | apply And.intro | intro _hc)
            all_goals first | exact tup2 (.refl _) (leI rfl) | exact AV.le_refl _ | exact AV.le_any _ | exact OLe.refl _ | exact OLe.none _ | exact LeH.refl _ | exact LeL.refl _ | exact AV.le.bs _ | exact AV.le.sb _ | omega | contradiction
          | false =>
            have hp : pT w0 w1 w2 w3 w4 w5 r = none := by unfold pT; simp [hd, k1, k2, k5, k4]
            rw [hp]
            repeat' (first | refine wC (by first | omega | (simp only [W1, cond_true, cond_false, k1, k4, hnz, s4, g1, g2, et, ef]; first | done | omega)) ?_ | refine wT (by first | omega | (simp only [W1, cond_true, cond_false, k1, k4, hnz, s4, g1, g2, et, ef]; first | done | omega)) ?_ | refine wF (by intro _h; first | omega | (simp only [W1, cond_true, cond_false, k1, k4, hnz, s4, g1, g2, et, ef] at _h; first | done | omega)) ?_ | (refine wS ?_ ?_ <;> intro _h <;> simp only [W1, cond_true, cond_false, k1, k4, hnz, s4, g1, g2, et, ef] at _h))
            all_goals simp only [W1, W2, owesN, owesX, owesR, cond_true, cond_false, k1, k4, hnz, s4, g1, g2, et, ef]
            repeat' (first | apply And.intro | intro _hc)
            all_goals first | exact tup2 (.refl _) (leI rfl) | exact AV.le_refl _ | exact AV.le_any _ | exact OLe.refl _ | exact OLe.none _ | exact LeH.refl _ | exact LeL.refl _ | exact AV.le.bs _ | exact AV.le.sb _ | omega | contradiction
        | false =>
          have hp : pT w0 w1 w2 w3 w4 w5 r = none := by unfold pT; simp [hd, k1, k2, k5]
          rw [hp]
          repeat' (first | refine wC (by first | omega | (simp only [W1, cond_true, cond_false, k1, hnz, s4, g1, g2, et, ef]; first | done | omega)) ?_ | refine wT (by first | omega | (simp only [W1, cond_true, cond_false, k1, hnz, s4, g1, g2, et, ef]; first | done | omega)) ?_ | refine wF (by intro _h; first | omega | (simp only [W1, cond_true, cond_false, k1, hnz, s4, g1, g2, et, ef] at _h; first | done | omega)) ?_ | (refine wS ?_ ?_ <;> intro _h <;> simp only [W1, cond_true, cond_false, k1, hnz, s4, g1, g2, et, ef] at _h))
          all_goals simp only [W1, W2, owesN, owesX, owesR, cond_true, cond_false, k1, hnz, s4, g1, g2, et, ef]
          repeat' (first | apply And.intro | intro _hc)
          all_goals first | exact tup2 (.refl _) (leI rfl) | exact AV.le_refl _ | exact AV.le_any _ | exact OLe.refl _ | exact OLe.none _ | exact LeH.refl _ | exact LeL.refl _ | exact AV.le.bs _ | exact AV.le.sb _ | omega | contradiction
    · have hp : pT w0 w1 w2 w3 w4 w5 r = none := by unfold pT; simp [hd, k1]
      rw [hp]
      repeat' (first | refine wC (by first | omega | (simp only [W1, cond_true, cond_false, k1, hnz, s4, g1, g2, et, ef]; first | done | omega)) ?_ | refine wT (by first | omega | (simp only [W1, cond_true, cond_false, k1, hnz, s4, g1, g2, et, ef]; first | done | omega)) ?_ | refine wF (by intro _h; first | omega | (simp only [W1, cond_true, cond_false, k1, hnz, s4, g1, g2, et, ef] at _h; first | done | omega)) ?_ | (refine wS ?_ ?_ <;> intro _h <;> simp only [W1, cond_true, cond_false, k1, hnz, s4, g1, g2, et, ef] at _h))
      all_goals simp only [W1, W2, owesN, owesX, owesR, cond_true, cond_false, k1, hnz, s4, g1, g2, et, ef]
      repeat' (first | apply And.intro | intro _hc)
      all_goals first | exact tup2 (.refl _) (leI rfl) | exact AV.le_refl _ | exact AV.le_any _ | exact OLe.refl _ | exact OLe.none _ | exact LeH.refl _ | exact LeL.refl _ | exact AV.le.bs _ | exact AV.le.sb _ | omega | contradiction
  · have hd : hdB w1 w5 = false := by cases h : hdB w1 w5 with | true => exact absurd h hd | false => rfl
    have hp : pT w0 w1 w2 w3 w4 w5 r = none := by unfold pT; simp [hd]
    rw [hp]
    by_cases d1 : w5 = ⟨#[116, 111]⟩
    · have q1 : decide (w5 = ⟨#[116, 111]⟩) = true := decide_eq_true d1
      by_cases d2 : w1 = e0
      · have q2 : decide (w1 = e0) = true := decide_eq_true d2
        simp only [q1, q2]
        repeat' (first | refine wC (by first | omega | (simp only [W1, cond_true, cond_false]; first | done | omega)) ?_ | refine wT (by first | omega | (simp only [W1, cond_true, cond_false]; first | done | omega)) ?_ | refine wF (by intro _h; first | omega | (simp only [W1, cond_true, cond_false] at _h; first | done | omega)) ?_ | (refine wS ?_ ?_ <;> intro _h <;> simp only [W1, cond_true, cond_false] at _h))
        all_goals simp only [W1, W2, owesN, owesX, owesR, cond_true, cond_false]
        repeat' (first | apply And.intro | intro _hc)
        all_goals first | exact tup2 (.refl _) (leI rfl) | exact AV.le_refl _ | exact AV.le_any _ | exact OLe.refl _ | exact OLe.none _ | exact LeH.refl _ | exact LeL.refl _ | exact AV.le.bs _ | exact AV.le.sb _ | omega | contradiction
      · have q2 : decide (w1 = e0) = false := decide_eq_false d2
        rw [hE] at d2
        have hw : IntKind.wrap IntKind.i64 ((w1.size : Int) - 1) = ((w1.size - 1 : Nat) : Int) := by rw [wrap64 (by omega) (by omega)]; omega
        have d3 : ¬ bN w1 (w1.size - 1) = 58 := fun e => by
          unfold hdB at hd
          rw [q1, decide_eq_true e, decide_eq_true (show ¬ w1 = e0 by rw [hE]; exact d2)] at hd
          exact absurd hd (by decide)
        have hb : decide (sbyte w1 (w1.size - 1) = (58 : Int)) = false := decide_eq_false (by show ¬ ((bN w1 (w1.size - 1) : Nat) : Int) = 58; omega)
        simp only [hw, Int.toNat_natCast, hb, q1, q2]
        repeat' (first | refine wC (by first | omega | (simp only [W1, cond_true, cond_false]; first | done | omega)) ?_ | refine wT (by first | omega | (simp only [W1, cond_true, cond_false]; first | done | omega)) ?_ | refine wF (by intro _h; first | omega | (simp only [W1, cond_true, cond_false] at _h; first | done | omega)) ?_ | (refine wS ?_ ?_ <;> intro _h <;> simp only [W1, cond_true, cond_false] at _h))
        all_goals simp only [W1, W2, owesN, owesX, owesR, cond_true, cond_false]
        repeat' (first | apply And.intro | intro _hc)
        all_goals first | exact tup2 (.refl _) (leI rfl) | exact AV.le_refl _ | exact AV.le_any _ | exact OLe.refl _ | exact OLe.none _ | exact LeH.refl _ | exact LeL.refl _ | exact AV.le.bs _ | exact AV.le.sb _ | omega | contradiction
    · have q1 : decide (w5 = ⟨#[116, 111]⟩) = false := decide_eq_false d1
      simp only [q1]
      repeat' (first | refine wC (by first | omega | (simp only [W1, cond_true, cond_false]; first | done | omega)) ?_ | refine wT (by first | omega | (simp only [W1, cond_true, cond_false]; first | done | omega)) ?_ | refine wF (by intro _h; first | omega | (simp only [W1, cond_true, cond_false] at _h; first | done | omega)) ?_ | (refine wS ?_ ?_ <;> intro _h <;> simp only [W1, cond_true, cond_false] at _h))
      all_goals simp only [W1, W2, owesN, owesX, owesR, cond_true, cond_false]
      repeat' (first | apply And.intro | intro _hc)
      all_goals first | exact tup2 (.refl _) (leI rfl) | exact AV.le_refl _ | exact AV.le_any _ | exact OLe.refl _ | exact OLe.none _ | exact LeH.refl _ | exact LeL.refl _ | exact AV.le.bs _ | exact AV.le.sb _ | omega | contradiction
end Go.Eng.TA

/- transactions: out of words: the document. -/
namespace Go.Eng.TA
open Go Go.Eng Go.Eng.M Go.Lib Go.Proofs
set_option linter.unusedSimpArgs false
set_option linter.unusedVariables false
theorem hZ6 : OLe (some (.arr 1 6 fun _ => [AV.v (Value.string ⟨#[]⟩)])) (some (.arr 1 6 (lsF Wo.c (([] : List Wo) ++ List.replicate 6 default)))) := OLe.arr rfl (fun e he => by
  rw [lsF_at]
  match e, he with
  | 0, _ => rfl
  | 1, _ => rfl
  | 2, _ => rfl
  | 3, _ => rfl
  | 4, _ => rfl
  | 5, _ => rfl) (fun _ => rfl)
theorem ansRP {s : ByteArray} {L : List Wo} {q : Nat} (hs : s.size ≤ 1000000) (h : wl s 6 0 = some (L, q)) (hr : (s.extract q s.size).size ≤ 10000000) (hL : ∀ i, (L.getD i default).s.size ≤ 10000000) :
    Answers Tryd.prog Γm 37 [.v (.string s)] [] (resR (pT (L.getD 0 default).s (L.getD 1 default).s (L.getD 2 default).s (L.getD 3 default).s (L.getD 4 default).s (L.getD 5 default).s (s.extract q s.size))) [] [] := by
  have hl := loop6w hs (R := some (L, q)) ⟨[], 0⟩ ⟨Nat.zero_le _, Nat.zero_le _, by show preL [] (wl s 6 0) = _; rw [h]; rfl⟩
  refine answers (fn := Tryd.f37) (c := bodyOf Tryd.f37) (ntmps := 110) (results := [.cell 2 40, .tmp 3]) [kRr, kTxR] (fun _ => LSpec.at lvP6 [] (S6 s ⟨[], 0⟩) (O6w s (some (L, q)))) false Tryd.func37 (by kernel_rfl) (by kernel_rfl) (by kernel_rfl) (by kernel_rfl) (by simp) rfl (oneLoop (b := lpP6) (by kernel_rfl) hl) <| Meets.of (runRP s L q) <| ?_
  have s1 := hL 1
  have s2 := hL 2
  have s4 := hL 4
  simp only [Int.reduceToNat, Bool.cond_self, condSelf, ext_all]
  obtain ⟨r, er⟩ : ∃ w, w = s.extract q s.size := ⟨_, rfl⟩
  obtain ⟨w0, e0'⟩ : ∃ w, w = (L.getD 0 default).s := ⟨_, rfl⟩
  obtain ⟨w1, e1'⟩ : ∃ w, w = (L.getD 1 default).s := ⟨_, rfl⟩
  obtain ⟨w2, e2'⟩ : ∃ w, w = (L.getD 2 default).s := ⟨_, rfl⟩
  obtain ⟨w3, e3'⟩ : ∃ w, w = (L.getD 3 default).s := ⟨_, rfl⟩
  obtain ⟨w4, e4'⟩ : ∃ w, w = (L.getD 4 default).s := ⟨_, rfl⟩
  obtain ⟨w5, e5'⟩ : ∃ w, w = (L.getD 5 default).s := ⟨_, rfl⟩
  rw [← er] at hr
  rw [← e1'] at s1
  rw [← e2'] at s2
  rw [← e4'] at s4
  simp only [← er, ← e0', ← e1', ← e2', ← e3', ← e4', ← e5']
  clear er e0' e1' e2' e3' e4' e5'
  clear h hL hl
  have hE : w1 = e0 ↔ w1.size = 0 := emp_size
  have hnz : (n1 w1).size ≤ 1000000000 := by unfold n1; rw [ext_size _ _ _ (by omega)]; omega
  have g1 : smallT (t1 w1 w2 w4 r) := ⟨s2, hr, Nat.zero_le _, Nat.zero_le _⟩
  have g2 : smallT (t2 w1 w2 w4 r) := ⟨s2, Nat.zero_le _, s4, hr⟩
  have g0 : smallT ⟨0, w2, e0, e0, e0, 0, rdN (n1 w1) 1 4611686018427387904⟩ := ⟨s2, Nat.zero_le _, Nat.zero_le _, Nat.zero_le _⟩
  have b0 : txB ⟨0, w2, e0, e0, e0, 0, rdN (n1 w1) 1 4611686018427387904⟩ = false := by unfold txB; simp
  have s4 : w4.size ≤ 1000000000 := by omega
  by_cases hz : w1.size < 2
  · have hp : pT w0 w1 w2 w3 w4 w5 r = none := by
      unfold pT
      by_cases hd : hdB w1 w5 = false
      · rw [if_pos hd]
      · rw [if_neg hd]
        have hd' : hdB w1 w5 = true := by cases h : hdB w1 w5 with | true => rfl | false => exact absurd h hd
        unfold hdB at hd'
        simp only [Bool.and_eq_true, decide_eq_true_eq] at hd'
        have h1 : w1.size = 1 := by have := hd'.2.1; rw [hE] at this; omega
        rw [n1_one h1, if_pos (rd_empty _ _)]
    rw [hp]
    have hz' : decide ((w1.size : Int) < 2) = true := decide_eq_true (by omega)
    simp only [hz']
    repeat' (first | refine wC (by first | omega | (simp only [W1, cond_true, cond_false]; first | done | omega)) ?_ | refine wT (by first | omega | (simp only [W1, cond_true, cond_false]; first | done | omega)) ?_ | refine wF (by intro _h; first | omega | (simp only [W1, cond_true, cond_false] at _h; first | done | omega)) ?_ | (refine wS ?_ ?_ <;> intro _h <;> simp only [W1, cond_true, cond_false] at _h))
    all_goals simp only [W1, W2, owesN, owesX, owesR, cond_true, cond_false]
    repeat' (first | apply And.intro | intro _hc)
    all_goals first | exact tup2 (.refl _) (leB rfl) | exact hZ6 | exact ⟨OLe.refl _, hZ6, trivial⟩ | exact AV.le_refl _ | exact AV.le_any _ | exact OLe.refl _ | exact OLe.none _ | exact LeH.refl _ | exact LeL.refl _ | exact AV.le.bs _ | exact AV.le.sb _ | omega | contradiction
  · have hz' : decide ((w1.size : Int) < 2) = false := decide_eq_false (by omega)
    have hw : IntKind.wrap IntKind.i64 ((w1.size : Int) - 1) = ((w1.size - 1 : Nat) : Int) := by rw [wrap64 (by omega) (by omega)]; omega
    have hn : w1.extract 0 (w1.size - 1) = n1 w1 := rfl
    have hb : decide (sbyte w1 (w1.size - 1) = (58 : Int)) = decide (bN w1 (w1.size - 1) = 58) := by
      show decide (((bN w1 (w1.size - 1) : Nat) : Int) = 58) = _
      rw [Bool.eq_iff_iff, decide_eq_true_iff, decide_eq_true_iff]; omega
    have hhd : hdB w1 w5 = (decide (bN w1 (w1.size - 1) = 58) && decide (w5 = ⟨#[116, 111]⟩)) := by
      unfold hdB
      rw [decide_eq_true (show ¬ w1 = e0 by rw [hE]; omega), Bool.true_and, Bool.and_comm]
    have mE : (bif decide (w0 = ⟨#[109, 111, 118, 101]⟩) then decide (w3 = ⟨#[103, 105, 118, 101, 115]⟩) else false) = mvB w0 w3 := by unfold mvB; cases decide (w0 = ⟨#[109, 111, 118, 101]⟩) <;> rfl
    have pE : (bif decide (w0 = ⟨#[112, 117, 116]⟩) then decide (w3 = ⟨#[115, 101, 116, 115]⟩) else false) = ptB w0 w3 := by unfold ptB; cases decide (w0 = ⟨#[112, 117, 116]⟩) <;> rfl
    have x1 : (Tx.mk 1 w2 r e0 e0 (rdN w4 1 4611686018427387904) (rdN (n1 w1) 1 4611686018427387904)) = t1 w1 w2 w4 r := rfl
    have x2 : (Tx.mk 2 w2 e0 w4 r 0 (rdN (n1 w1) 1 4611686018427387904)) = t2 w1 w2 w4 r := rfl
    have c1 : (0 : Int) ≤ ((w1.size - 1 : Nat) : Int) ∧ ((w1.size - 1 : Nat) : Int) < (w1.size : Int) := by omega
    simp only [hz', hw, Int.toNat_natCast, hb, hn, x1, x2, mE, pE, condSelf]
    cases hl : decide (bN w1 (w1.size - 1) = 58) with
    | false =>
      rw [hl, Bool.false_and] at hhd
      have hp : pT w0 w1 w2 w3 w4 w5 r = none := by unfold pT; simp [hhd]
      rw [hp]
      repeat' (first | refine wC (by first | omega | (simp only [W1, cond_true, cond_false]; first | done | omega)) ?_ | refine wT (by first | omega | (simp only [W1, cond_true, cond_false]; first | done | omega)) ?_ | refine wF (by intro _h; first | omega | (simp only [W1, cond_true, cond_false] at _h; first | done | omega)) ?_ | (refine wS ?_ ?_ <;> intro _h <;> simp only [W1, cond_true, cond_false] at _h))
      all_goals simp only [W1, W2, owesN, owesX, owesR, cond_true, cond_false]
      repeat' (first | apply And.intro | intro _hc)
      all_goals first | exact tup2 (.refl _) (leB rfl) | exact hZ6 | exact ⟨OLe.refl _, hZ6, trivial⟩ | exact AV.le_refl _ | exact AV.le_any _ | exact OLe.refl _ | exact OLe.none _ | exact LeH.refl _ | exact LeL.refl _ | exact AV.le.bs _ | exact AV.le.sb _ | omega | contradiction
    | true =>
    rw [hl, Bool.true_and] at hhd
    cases ht : decide (w5 = ⟨#[116, 111]⟩) with
    | false =>
      rw [ht] at hhd
      have hp : pT w0 w1 w2 w3 w4 w5 r = none := by unfold pT; simp [hhd]
      rw [hp]
      repeat' (first | refine wC (by first | omega | (simp only [W1, cond_true, cond_false]; first | done | omega)) ?_ | refine wT (by first | omega | (simp only [W1, cond_true, cond_false]; first | done | omega)) ?_ | refine wF (by intro _h; first | omega | (simp only [W1, cond_true, cond_false] at _h; first | done | omega)) ?_ | (refine wS ?_ ?_ <;> intro _h <;> simp only [W1, cond_true, cond_false] at _h))
      all_goals simp only [W1, W2, owesN, owesX, owesR, cond_true, cond_false]
      repeat' (first | apply And.intro | intro _hc)
      all_goals first | exact tup2 (.refl _) (leB rfl) | exact hZ6 | exact ⟨OLe.refl _, hZ6, trivial⟩ | exact AV.le_refl _ | exact AV.le_any _ | exact OLe.refl _ | exact OLe.none _ | exact LeH.refl _ | exact LeL.refl _ | exact AV.le.bs _ | exact AV.le.sb _ | omega | contradiction
    | true =>
    rw [ht] at hhd
    by_cases k1 : rdE (n1 w1) 1 4611686018427387904 = 0
    · cases k2 : mvB w0 w3 with
      | true =>
        by_cases k3 : rdE w4 1 4611686018427387904 = 0
        · cases k4 : txB (t1 w1 w2 w4 r) with
          | true =>
            have hp : pT w0 w1 w2 w3 w4 w5 r = some (t1 w1 w2 w4 r) := by unfold pT; simp [hhd, k1, k2, k3, k4]
            rw [hp]
            repeat' (first | refine wC (by first | omega | (simp only [W1, cond_true, cond_false, k1, k3, k4, hnz, s4, g1, g2, g0]; first | done | omega)) ?_ | refine wT (by first | omega | (simp only [W1, cond_true, cond_false, k1, k3, k4, hnz, s4, g1, g2, g0]; first | done | omega)) ?_ | refine wF (by intro _h; first | omega | (simp only [W1, cond_true, cond_false, k1, k3, k4, hnz, s4, g1, g2, g0] at _h; first | done | omega)) ?_ | (refine wS ?_ ?_ <;> intro _h <;> simp only [W1, cond_true, cond_false, k1, k3, k4, hnz, s4, g1, g2, g0] at _h))
            all_goals simp only [W1, W2, owesN, owesX, owesR, cond_true, cond_false, k1, k3, k4, hnz, s4, g1, g2, g0]
            repeat' (first | apply And.intro | intro _hc)
            all_goals first | exact tup2 (.refl _) (leB rfl) | exact tup2 (.refl _) (leB' rfl) | exact hZ6 | exact ⟨OLe.refl _, hZ6, trivial⟩ | exact AV.le_refl _ | exact AV.le_any _ | exact OLe.refl _ | exact OLe.none _ | exact LeH.refl _ | exact LeL.refl _ | exact AV.le.bs _ | exact AV.le.sb _ | omega | contradiction
          | false =>
            have hp : pT w0 w1 w2 w3 w4 w5 r = none := by unfold pT; simp [hhd, k1, k2, k3, k4]
            rw [hp]
            repeat' (first | refine wC (by first | omega | (simp only [W1, cond_true, cond_false, k1, k3, k4, hnz, s4, g1, g2, g0]; first | done | omega)) ?_ | refine wT (by first | omega | (simp only [W1, cond_true, cond_false, k1, k3, k4, hnz, s4, g1, g2, g0]; first | done | omega)) ?_ | refine wF (by intro _h; first | omega | (simp only [W1, cond_true, cond_false, k1, k3, k4, hnz, s4, g1, g2, g0] at _h; first | done | omega)) ?_ | (refine wS ?_ ?_ <;> intro _h <;> simp only [W1, cond_true, cond_false, k1, k3, k4, hnz, s4, g1, g2, g0] at _h))
            all_goals simp only [W1, W2, owesN, owesX, owesR, cond_true, cond_false, k1, k3, k4, hnz, s4, g1, g2, g0]
            repeat' (first | apply And.intro | intro _hc)
            all_goals first | exact tup2 (.refl _) (leB rfl) | exact tup2 (.refl _) (leB' rfl) | exact hZ6 | exact ⟨OLe.refl _, hZ6, trivial⟩ | exact AV.le_refl _ | exact AV.le_any _ | exact OLe.refl _ | exact OLe.none _ | exact LeH.refl _ | exact LeL.refl _ | exact AV.le.bs _ | exact AV.le.sb _ | omega | contradiction
        · have hp : pT w0 w1 w2 w3 w4 w5 r = none := by unfold pT; simp [hhd, k1, k2, k3]
          rw [hp]
          repeat' (first | refine wC (by first | omega | (simp only [W1, cond_true, cond_false, k1, k3, hnz, s4, g1, g2, g0]; first | done | omega)) ?_ | refine wT (by first | omega | (simp only [W1, cond_true, cond_false, k1, k3, hnz, s4, g1, g2, g0]; first | done | omega)) ?_ | refine wF (by intro _h; first | omega | (simp only [W1, cond_true, cond_false, k1, k3, hnz, s4, g1, g2, g0] at _h; first | done | omega)) ?_ | (refine wS ?_ ?_ <;> intro _h <;> simp only [W1, cond_true, cond_false, k1, k3, hnz, s4, g1, g2, g0] at _h))
          all_goals simp only [W1, W2, owesN, owesX, owesR, cond_true, cond_false, k1, k3, hnz, s4, g1, g2, g0]
          repeat' (first | apply And.intro | intro _hc)
          all_goals first | exact tup2 (.refl _) (leB rfl) | exact tup2 (.refl _) (leB' rfl) | exact hZ6 | exact ⟨OLe.refl _, hZ6, trivial⟩ | exact AV.le_refl _ | exact AV.le_any _ | exact OLe.refl _ | exact OLe.none _ | exact LeH.refl _ | exact LeL.refl _ | exact AV.le.bs _ | exact AV.le.sb _ | omega | contradiction
      | false =>
        cases k5 : ptB w0 w3 with
        | true =>
          cases k4 : txB (t2 w1 w2 w4 r) with
          | true =>
            have hp : pT w0 w1 w2 w3 w4 w5 r = some (t2 w1 w2 w4 r) := by unfold pT; simp [hhd, k1, k2, k5, k4]
            rw [hp]
            repeat' (first | refine wC (by first | omega | (simp only [W1, cond_true, cond_false, k1, k4, hnz, s4, g1, g2, g0]; first | done | omega)) ?_ | refine wT (by first | omega | (simp only [W1, cond_true, cond_false, k1, k4, hnz, s4, g1, g2, g0]; first | done | omega)) ?_ | refine wF (by intro _h; first | omega | (simp only [W1, cond_true, cond_false, k1, k4, hnz, s4, g1, g2, g0] at _h; first | done | omega)) ?_ | (refine wS ?_ ?_ <;> intro _h <;> simp only [W1, cond_true, cond_false, k1, k4, hnz, s4, g1, g2, g0] at _h))
            all_goals simp only [W1, W2, owesN, owesX, owesR, cond_true, cond_false, k1, k4, hnz, s4, g1, g2, g0]
            repeat' (first | apply And.intro | intro _hc)
            all_goals first | exact tup2 (.refl _) (leB rfl) | exact tup2 (.refl _) (leB' rfl) | exact hZ6 | exact ⟨OLe.refl _, hZ6, trivial⟩ | exact AV.le_refl _ | exact AV.le_any _ | exact OLe.refl _ | exact OLe.none _ | exact LeH.refl _ | exact LeL.refl _ | exact AV.le.bs _ | exact AV.le.sb _ | omega | contradiction
          | false =>
            have hp : pT w0 w1 w2 w3 w4 w5 r = none := by unfold pT; simp [hhd, k1, k2, k5, k4]
            rw [hp]
            repeat' (first | refine wC (by first | omega | (simp only [W1, cond_true, cond_false, k1, k4, hnz, s4, g1, g2, g0]; first | done | omega)) ?_ | refine wT (by first | omega | (simp only [W1, cond_true, cond_false, k1, k4, hnz, s4, g1, g2, g0]; first | done | omega)) ?_ | refine wF (by intro _h; first | omega | (simp only [W1, cond_true, cond_false, k1, k4, hnz, s4, g1, g2, g0] at _h; first | done | omega)) ?_ | (refine wS ?_ ?_ <;> intro _h <;> simp only [W1, cond_true, cond_false, k1, k4, hnz, s4, g1, g2, g0] at _h))
            all_goals simp only [W1, W2, owesN, owesX, owesR, cond_true, cond_false, k1, k4, hnz, s4, g1, g2, g0]
            repeat' (first | apply And.intro | intro _hc)
            all_goals first | exact tup2 (.refl _) (leB rfl) | exact tup2 (.refl _) (leB' rfl) | exact hZ6 | exact ⟨OLe.refl _, hZ6, trivial⟩ | exact AV.le_refl _ | exact AV.le_any _ | exact OLe.refl _ | exact OLe.none _ | exact LeH.refl _ | exact LeL.refl _ | exact AV.le.bs _ | exact AV.le.sb _ | omega | contradiction
        | false =>
          have hp : pT w0 w1 w2 w3 w4 w5 r = none := by unfold pT; simp [hhd, k1, k2, k5]
          rw [hp]
          repeat' (first | refine wC (by first | omega | (simp only [W1, cond_true, cond_false, k1, b0, hnz, s4, g1, g2, g0]; first | done | omega)) ?_ | refine wT (by first | omega | (simp only [W1, cond_true, cond_false, k1, b0, hnz, s4, g1, g2, g0]; first | done | omega)) ?_ | refine wF (by intro _h; first | omega | (simp only [W1, cond_true, cond_false, k1, b0, hnz, s4, g1, g2, g0] at _h; first | done | omega)) ?_ | (refine wS ?_ ?_ <;> intro _h <;> simp only [W1, cond_true, cond_false, k1, b0, hnz, s4, g1, g2, g0] at _h))
          all_goals simp only [W1, W2, owesN, owesX, owesR, cond_true, cond_false, k1, b0, hnz, s4, g1, g2, g0]
          repeat' (first | apply And.intro | intro _hc)
          all_goals first | exact tup2 (.refl _) (leB rfl) | exact tup2 (.refl _) (leB' rfl) | exact hZ6 | exact ⟨OLe.refl _, hZ6, trivial⟩ | exact AV.le_refl _ | exact AV.le_any _ | exact OLe.refl _ | exact OLe.none _ | exact LeH.refl _ | exact LeL.refl _ | exact AV.le.bs _ | exact AV.le.sb _ | omega | contradiction
    · have hp : pT w0 w1 w2 w3 w4 w5 r = none := by unfold pT; simp [hhd, k1]
      rw [hp]
      repeat' (first | refine wC (by first | omega | (simp only [W1, cond_true, cond_false, k1, hnz, s4, g1, g2, g0]; first | done | omega)) ?_ | refine wT (by first | omega | (simp only [W1, cond_true, cond_false, k1, hnz, s4, g1, g2, g0]; first | done | omega)) ?_ | refine wF (by intro _h; first | omega | (simp only [W1, cond_true, cond_false, k1, hnz, s4, g1, g2, g0] at _h; first | done | omega)) ?_ | (refine wS ?_ ?_ <;> intro _h <;> simp only [W1, cond_true, cond_false, k1, hnz, s4, g1, g2, g0] at _h))
      all_goals simp only [W1, W2, owesN, owesX, owesR, cond_true, cond_false, k1, hnz, s4, g1, g2, g0]
      repeat' (first | apply And.intro | intro _hc)
      all_goals first | exact tup2 (.refl _) (leB rfl) | exact tup2 (.refl _) (leB' rfl) | exact hZ6 | exact ⟨OLe.refl _, hZ6, trivial⟩ | exact AV.le_refl _ | exact AV.le_any _ | exact OLe.refl _ | exact OLe.none _ | exact LeH.refl _ | exact LeL.refl _ | exact AV.le.bs _ | exact AV.le.sb _ | omega | contradiction
theorem ansRE {s : ByteArray} (hs : s.size ≤ 1000000) (h : wl s 6 0 = none) : Answers Tryd.prog Γm 37 [.v (.string s)] [] (resR none) [] [] := by
  have hl := loop6w hs (R := none) ⟨[], 0⟩ ⟨Nat.zero_le _, Nat.zero_le _, by show preL [] (wl s 6 0) = _; rw [h]; rfl⟩
  refine answers (fn := Tryd.f37) (c := bodyOf Tryd.f37) (ntmps := 110) (results := [.cell 2 40, .tmp 3]) [kRr, kTxR] (fun _ => LSpec.at lvP6 [] (S6 s ⟨[], 0⟩) (O6w s none)) false Tryd.func37 (by kernel_rfl) (by kernel_rfl) (by kernel_rfl) (by kernel_rfl) (by simp) rfl (oneLoop (b := lpP6) (by kernel_rfl) hl) <| Meets.of (runRE s) <| ?_
  simp only [Bool.cond_self, condSelf, ext_all]
  repeat' (first | refine wC (by first | omega | (simp only [W1, cond_true, cond_false]; first | done | omega)) ?_ | refine wT (by first | omega | (simp only [W1, cond_true, cond_false]; first | done | omega)) ?_ | refine wF (by intro _h; first | omega | (simp only [W1, cond_true, cond_false] at _h; first | done | omega)) ?_ | (refine wS ?_ ?_ <;> intro _h <;> simp only [W1, cond_true, cond_false] at _h))
  all_goals simp only [W1, W2, owesN, owesX, owesR, cond_true, cond_false]
  repeat' (first | apply And.intro | intro _hc)
  all_goals first | exact tup2 (.refl _) (leB rfl) | exact hZ6 | exact ⟨OLe.refl _, hZ6, trivial⟩ | exact AV.le_refl _ | exact AV.le_any _ | exact OLe.refl _ | exact OLe.none _ | exact LeH.refl _ | exact LeL.refl _ | exact AV.le.bs _ | exact AV.le.sb _ | omega | contradiction
theorem ansTE {s : ByteArray} (hs : s.size ≤ 1000000) (h : wl s 6 0 = none) : Answers Tryd.prog Γm 36 [.v (.string s)] [] (resP none) [] [] := by
  refine answers (fn := Tryd.f36) (c := bodyOf Tryd.f36) (ntmps := 112) (results := [.cell 2 40, .tmp 3]) [CT.at 90 (ansWsE hs h), kRe, kTx] (Lno) false Tryd.func36 (by kernel_rfl) (by kernel_rfl) (by kernel_rfl) (by kernel_rfl) (by simp) rfl (failOK fun _ _ _ => rfl) <| Meets.of (runTE s (ansWsE hs h)) <| ?_
  repeat' (first | refine wC (by first | omega | (simp only [W1, cond_true, cond_false]; first | done | omega)) ?_ | refine wT (by first | omega | (simp only [W1, cond_true, cond_false]; first | done | omega)) ?_ | refine wF (by intro _h; first | omega | (simp only [W1, cond_true, cond_false] at _h; first | done | omega)) ?_ | (refine wS ?_ ?_ <;> intro _h <;> simp only [W1, cond_true, cond_false] at _h))
  all_goals simp only [W1, W2, owesN, owesX, owesR, cond_true, cond_false]
  repeat' (first | apply And.intro | intro _hc)
  all_goals first | exact tup2 (.refl _) (leI rfl) | exact AV.le_refl _ | exact AV.le_any _ | exact OLe.refl _ | exact OLe.none _ | exact LeH.refl _ | exact LeL.refl _ | exact AV.le.bs _ | exact AV.le.sb _ | omega | contradiction
end Go.Eng.TA

/- names: the chapter's example. -/
namespace Go.Eng.TA
open Go Go.Eng Go.Proofs
set_option linter.unusedSimpArgs false
set_option linter.unusedVariables false
/-- (hallmoot/name.span).has -/
noncomputable def z25 : CT Tryd.prog Γm := CT.auto true 100 3 [] 109 Tryd.f109 (bodyOf Tryd.f109) false 21 [.tmp 4] Tryd.func109 (by kernel_rfl) (by kernel_rfl) (by kernel_rfl) (by kernel_rfl)
/-- hallmoot/name.great -/
noncomputable def z26 : CT Tryd.prog Γm := CT.auto true 100 3 [z25] 112 Tryd.f112 (bodyOf Tryd.f112) false 16 [.tmp 2] Tryd.func112 (by kernel_rfl) (by kernel_rfl) (by kernel_rfl) (by kernel_rfl)
/-- hallmoot/name.Small -/
noncomputable def z12 : CT Tryd.prog Γm := CT.auto true 100 3 [z26] 77 Tryd.f77 (bodyOf Tryd.f77) false 8 [.tmp 2] Tryd.func77 (by kernel_rfl) (by kernel_rfl) (by kernel_rfl) (by kernel_rfl)
/-- hallmoot/name.Letter -/
noncomputable def z10 : CT Tryd.prog Γm := CT.auto true 100 3 [z25] 73 Tryd.f73 (bodyOf Tryd.f73) false 19 [.tmp 2] Tryd.func73 (by kernel_rfl) (by kernel_rfl) (by kernel_rfl) (by kernel_rfl)
/-- hallmoot/name.broken -/
noncomputable def z28 : CT Tryd.prog Γm := CT.auto true 100 3 [] 75 Tryd.f75 (bodyOf Tryd.f75) false 20 [.tmp 6] Tryd.func75 (by kernel_rfl) (by kernel_rfl) (by kernel_rfl) (by kernel_rfl)
/-- unicode/utf8.appendRuneNonASCII -/
noncomputable def z34 : CT Tryd.prog Γm := CT.auto true 100 3 [] 111 Tryd.f111 (bodyOf Tryd.f111) false 78 [.tmp 4] Tryd.func111 (by kernel_rfl) (by kernel_rfl) (by kernel_rfl) (by kernel_rfl)
/-- unicode/utf8.AppendRune -/
noncomputable def z29 : CT Tryd.prog Γm := CT.auto true 100 3 [z34] 76 Tryd.f76 (bodyOf Tryd.f76) false 16 [.tmp 4] Tryd.func76 (by kernel_rfl) (by kernel_rfl) (by kernel_rfl) (by kernel_rfl)
/-- hallmoot/name.Check -/
noncomputable def z17 : CT Tryd.prog Γm := CT.auto true 100 3 [z10] 20 Tryd.f20 (bodyOf Tryd.f20) false 41 [.tmp 2] Tryd.func20 (by kernel_rfl) (by kernel_rfl) (by kernel_rfl) (by kernel_rfl)
/-- hallmoot/name.Fold -/
noncomputable def z21 : CT Tryd.prog Γm := CT.auto true 100 3 [z28, z29, z12, z17] 24 Tryd.f24 (bodyOf Tryd.f24) false 30 [.tmp 2, .tmp 3] Tryd.func24 (by kernel_rfl) (by kernel_rfl) (by kernel_rfl) (by kernel_rfl)
/-- hallmoot/name.Cut -/
noncomputable def z14 : CT Tryd.prog Γm := CT.auto true 100 3 [] 17 Tryd.f17 (bodyOf Tryd.f17) false 25 [.tmp 4, .tmp 5] Tryd.func17 (by kernel_rfl) (by kernel_rfl) (by kernel_rfl) (by kernel_rfl)
theorem run8 : (bodyE (P := Tryd.prog) (Γ := Γm) [z21, z14, z17] (autoL true 100 [z21, z14, z17] false 0 35 (loopBodies (bodyOf Tryd.f15)) 3) false 35 [.tmp 0] (bodyOf Tryd.f15) [] []).get = some ⟨.sb true, []⟩ := by kernel_rfl
/-- the example holds -/
noncomputable def z8 : CT Tryd.prog Γm := CT.fact 15 Tryd.f15 (bodyOf Tryd.f15) [z21, z14, z17] (autoL true 100 [z21, z14, z17] false 0 35 (loopBodies (bodyOf Tryd.f15)) 3) false 35 [.tmp 0] Tryd.func15 (by kernel_rfl) (by kernel_rfl) (by kernel_rfl) (by kernel_rfl) (autoL_ok 3) (.sb true) (.sb true) run8
end Go.Eng.TA

/- the chapters' examples. -/
namespace Go.Eng.TA
open Go Go.Eng Go.Proofs
set_option linter.unusedSimpArgs false
set_option linter.unusedVariables false
/-- hallmoot/tx.words -/
noncomputable def z90x : CT Tryd.prog Γm := CT.auto true 100 3 [] 90 Tryd.f90 (bodyOf Tryd.f90) false 35 [.tmp 4, .tmp 5, .tmp 6] Tryd.func90 (by kernel_rfl) (by kernel_rfl) (by kernel_rfl) (by kernel_rfl)
/-- hallmoot/num.form -/
noncomputable def z113x : CT Tryd.prog Γm := CT.auto true 100 3 [] 113 Tryd.f113 (bodyOf Tryd.f113) false 54 [.tmp 2, .tmp 3, .tmp 4] Tryd.func113 (by kernel_rfl) (by kernel_rfl) (by kernel_rfl) (by kernel_rfl)
/-- hallmoot/num.Within -/
noncomputable def z85x : CT Tryd.prog Γm := CT.auto true 100 3 [] 85 Tryd.f85 (bodyOf Tryd.f85) false 15 [.tmp 6] Tryd.func85 (by kernel_rfl) (by kernel_rfl) (by kernel_rfl) (by kernel_rfl)
/-- hallmoot/num.Read -/
noncomputable def z91x : CT Tryd.prog Γm := CT.auto true 100 3 [z113x, z85x] 91 Tryd.f91 (bodyOf Tryd.f91) false 59 [.tmp 6, .tmp 7] Tryd.func91 (by kernel_rfl) (by kernel_rfl) (by kernel_rfl) (by kernel_rfl)
/-- unicode/utf8.decodeRuneInStringSlow -/
noncomputable def z120x : CT Tryd.prog Γm := CT.auto true 100 3 [] 120 Tryd.f120 (bodyOf Tryd.f120) false 117 [.tmp 2, .tmp 3] Tryd.func120 (by kernel_rfl) (by kernel_rfl) (by kernel_rfl) (by kernel_rfl)
/-- unicode/utf8.DecodeRuneInString -/
noncomputable def z110x : CT Tryd.prog Γm := CT.auto true 100 3 [z120x] 110 Tryd.f110 (bodyOf Tryd.f110) false 19 [.tmp 2, .tmp 3] Tryd.func110 (by kernel_rfl) (by kernel_rfl) (by kernel_rfl) (by kernel_rfl)
/-- hallmoot/name.Value -/
noncomputable def z22x : CT Tryd.prog Γm := CT.auto true 100 3 [z28] 22 Tryd.f22 (bodyOf Tryd.f22) false 28 [.tmp 2] Tryd.func22 (by kernel_rfl) (by kernel_rfl) (by kernel_rfl) (by kernel_rfl)
/-- hallmoot/tx.Check -/
noncomputable def z32x : CT Tryd.prog Γm := CT.auto true 100 3 [z17, z85x, z22x] 32 Tryd.f32 (bodyOf Tryd.f32) false 66 [.tmp 2] Tryd.func32 (by kernel_rfl) (by kernel_rfl) (by kernel_rfl) (by kernel_rfl)
/-- hallmoot/tx.Parse -/
noncomputable def z36x : CT Tryd.prog Γm := CT.auto true 100 3 [z90x, z91x, z32x] 36 Tryd.f36 (bodyOf Tryd.f36) false 112 [.cell 2 40, .tmp 3] Tryd.func36 (by kernel_rfl) (by kernel_rfl) (by kernel_rfl) (by kernel_rfl)
/-- hallmoot/num.Print -/
noncomputable def z84x : CT Tryd.prog Γm := CT.auto true 100 3 [] 84 Tryd.f84 (bodyOf Tryd.f84) false 35 [.tmp 2] Tryd.func84 (by kernel_rfl) (by kernel_rfl) (by kernel_rfl) (by kernel_rfl)
/-- hallmoot/tx.Print -/
noncomputable def z31x : CT Tryd.prog Γm := CT.auto true 100 3 [z32x, z84x] 31 Tryd.f31 (bodyOf Tryd.f31) false 42 [.tmp 2, .tmp 3] Tryd.func31 (by kernel_rfl) (by kernel_rfl) (by kernel_rfl) (by kernel_rfl)
/-- slices.Clone[[]byte,byte] -/
noncomputable def z94x : CT Tryd.prog Γm := CT.auto true 100 3 [] 94 Tryd.f94 (bodyOf Tryd.f94) false 8 [.tmp 2] Tryd.func94 (by kernel_rfl) (by kernel_rfl) (by kernel_rfl) (by kernel_rfl)
/-- hallmoot/wire.Num -/
noncomputable def z83x : CT Tryd.prog Γm := CT.auto true 100 3 [z94x] 83 Tryd.f83 (bodyOf Tryd.f83) false 30 [.tmp 4, .tmp 5] Tryd.func83 (by kernel_rfl) (by kernel_rfl) (by kernel_rfl) (by kernel_rfl)
/-- hallmoot/wire.Nums -/
noncomputable def z81x : CT Tryd.prog Γm := CT.auto true 100 3 [z83x] 81 Tryd.f81 (bodyOf Tryd.f81) false 25 [.tmp 2, .tmp 3] Tryd.func81 (by kernel_rfl) (by kernel_rfl) (by kernel_rfl) (by kernel_rfl)
/-- hallmoot/wire.Text -/
noncomputable def z82x : CT Tryd.prog Γm := CT.auto true 100 3 [z83x] 82 Tryd.f82 (bodyOf Tryd.f82) false 22 [.tmp 4, .tmp 5] Tryd.func82 (by kernel_rfl) (by kernel_rfl) (by kernel_rfl) (by kernel_rfl)
/-- hallmoot/tx.Bytes -/
noncomputable def z30x : CT Tryd.prog Γm := CT.auto true 100 3 [z32x, z81x, z82x, z83x] 30 Tryd.f30 (bodyOf Tryd.f30) false 57 [.tmp 2, .tmp 3] Tryd.func30 (by kernel_rfl) (by kernel_rfl) (by kernel_rfl) (by kernel_rfl)
theorem zrun28 : (bodyE (P := Tryd.prog) (Γ := Γm) [z36x, z31x, z30x] (autoL true 100 [z36x, z31x, z30x] false 0 40 (loopBodies (bodyOf Tryd.f28)) 3) false 40 [.tmp 0] (bodyOf Tryd.f28) [] []).get = some ⟨.sb true, []⟩ := by kernel_rfl
/-- hallmoot/hallmootlaw08.alive: it holds -/
noncomputable def z28' : CT Tryd.prog Γm := CT.fact 28 Tryd.f28 (bodyOf Tryd.f28) [z36x, z31x, z30x] (autoL true 100 [z36x, z31x, z30x] false 0 40 (loopBodies (bodyOf Tryd.f28)) 3) false 40 [.tmp 0] Tryd.func28 (by kernel_rfl) (by kernel_rfl) (by kernel_rfl) (by kernel_rfl) (autoL_ok 3) (.sb true) (.sb true) zrun28
end Go.Eng.TA

/- TxParses: the law. -/
namespace Go.Eng.TA
open Go Go.Eng Go.Eng.M Go.Lib Go.Proofs
set_option linter.unusedSimpArgs false
set_option linter.unusedVariables false
theorem wl_facts {s : ByteArray} : ∀ (k p : Nat), p ≤ s.size → ∀ {L : List Wo} {q : Nat}, wl s k p = some (L, q) → L.length = k ∧ q ≤ s.size ∧ ∀ w ∈ L, w.s.size ≤ s.size := by
  intro k
  induction k with
  | zero =>
    intro p hp L q h
    rw [wl] at h
    cases h
    exact ⟨rfl, hp, fun w hw => absurd hw (by simp)⟩
  | succ k ih =>
    intro p hp L q h
    rw [wl] at h
    by_cases hq : spA s p < s.size
    · rw [if_pos hq] at h
      cases hr : wl s k (spA s p + 1) with
      | none => rw [hr] at h; cases h
      | some r =>
        rw [hr] at h
        obtain ⟨M, q'⟩ := r
        cases h
        obtain ⟨h1, h2, h3⟩ := ih (spA s p + 1) hq hr
        refine ⟨by rw [List.length_cons, h1], h2, fun w hw => ?_⟩
        rcases List.mem_cons.1 hw with rfl | hw
        · show (s.extract p (spA s p)).size ≤ s.size
          rw [ext_size _ _ _ (by omega)]; omega
        · exact h3 w hw
    · rw [if_neg hq] at h; cases h
theorem both {s : ByteArray} (hs : s.size ≤ 2000) : ∃ o, Answers Tryd.prog Γm 36 [.v (.string s)] [] (resP o) [] [] ∧ Answers Tryd.prog Γm 37 [.v (.string s)] [] (resR o) [] [] := by
  cases h : wl s 6 0 with
  | none => exact ⟨none, ansTE (by omega) h, ansRE (by omega) h⟩
  | some R =>
    obtain ⟨L, q⟩ := R
    obtain ⟨h1, h2, h3⟩ := wl_facts 6 0 (Nat.zero_le _) h
    have hL : ∀ i, (L.getD i default).s.size ≤ 10000000 := fun i => by
      rcases Nat.lt_or_ge i L.length with hi | hi
      · rw [getD_get hi]
        have := h3 _ (List.getElem_mem hi)
        omega
      · rw [List.getD_eq_getElem?_getD, List.getElem?_eq_none hi]
        exact Nat.zero_le _
    have hr : (s.extract q s.size).size ≤ 10000000 := by rw [ext_size _ _ _ (Nat.le_refl _)]; omega
    have hw := ansWsR (by omega) h
    rw [h1] at hw
    exact ⟨_, ansTP hw hr hL, ansRP (by omega) h hr hL⟩
def A8 (s : ByteArray) : List AV := [.v (.string s)]
theorem law8n (s : ByteArray) : bodyE (P := Tryd.prog) (Γ := Γm) [z28'] Lno false 38 [.tmp 2] (bodyOf Tryd.f8) (A8 s) [] =
  Tree.br (decide ((2000 : Int) < (↑(ByteArray.size s) : Int))) (Tree.leaf (Ans.mk (AV.v (Value.bool true)) [])) Tree.fail := by kernel_rfl
theorem law8 (s : ByteArray) (o : Option Tx) (h1 : Answers Tryd.prog Γm 36 [.v (.string s)] [] (resP o) [] []) (h2 : Answers Tryd.prog Γm 37 [.v (.string s)] [] (resR o) [] []) : bodyE (P := Tryd.prog) (Γ := Γm) [z28', CT.at 36 h1, CT.at 37 h2] Lno false 38 [.tmp 2] (bodyOf Tryd.f8) (A8 s) [] =
  Tree.br (decide ((2000 : Int) < (↑(ByteArray.size s) : Int))) (Tree.leaf (Ans.mk (AV.v (Value.bool true)) [])) (Tree.chk (cl (LeL [AV.v (Value.string s)] [AV.v (Value.string s)] ∧ LeH []
    [])) (Tree.chk (cl (LeL [AV.v (Value.string s)] [AV.v (Value.string s)] ∧ LeH [] [])) (Tree.leaf (Ans.mk (AV.sb (bif decide ((Option.getD o tz).k = (Option.getD o tz).k) && (decide
    ((Option.getD o tz).fr = (Option.getD o tz).fr) && (decide ((Option.getD o tz).to = (Option.getD o tz).to) && (decide ((Option.getD o tz).ky = (Option.getD o tz).ky) && (decide
    ((Option.getD o tz).vl = (Option.getD o tz).vl) && (decide ((Option.getD o tz).am = (Option.getD o tz).am) && decide ((Option.getD o tz).nn = (Option.getD o tz).nn)))))) then bif decide
    ((if Option.isSome o = true then (0 : Int) else (80 : Int)) = (0 : Int)) == Option.isSome o then bif Option.isSome o then true else decide ((if Option.isSome o = true then (0 : Int) else
    (80 : Int)) = (80 : Int)) else false else false)) [])))) := by kernel_rfl
theorem leV {a : Bool} (h : a = true) : AV.le (.sb a) (.v (.bool true)) := by rw [h]; exact .sb true
theorem lawTP (s : ByteArray) : LawOK Tryd.prog Γm 38 [.tmp 2] (bodyOf Tryd.f8) (A8 s) := by
  by_cases hs : 2000 < s.size
  · refine .mk' (T := [z28']) (ip := false) (L := Lno) (failOK fun _ _ _ => rfl) (Right.of (law8n s) ?_)
    repeat' (first | refine wC (by first | omega | (simp only [W1, cond_true, cond_false]; first | done | omega)) ?_ | refine wT (by first | omega | (simp only [W1, cond_true, cond_false]; first | done | omega)) ?_ | refine wF (by intro _h; first | omega | (simp only [W1, cond_true, cond_false] at _h; first | done | omega)) ?_ | (refine wS ?_ ?_ <;> intro _h <;> simp only [W1, cond_true, cond_false] at _h))
    all_goals simp only [W1, W2, owesN, owesX, owesR, cond_true, cond_false]
    repeat' (first | apply And.intro | intro _hc)
    all_goals first | exact AV.le_refl _ | exact AV.le_any _ | exact OLe.refl _ | exact OLe.none _ | exact LeH.refl _ | exact LeL.refl _ | exact AV.le.bs _ | exact AV.le.sb _ | omega | contradiction
  · obtain ⟨o, h1, h2⟩ := both (s := s) (by omega)
    refine .mk' (T := [z28', CT.at 36 h1, CT.at 37 h2]) (ip := false) (L := Lno) (failOK fun _ _ _ => rfl) (Right.of (law8 s o h1 h2) ?_)
    cases o with
    | none =>
      repeat' (first | refine wC (by first | omega | (simp only [W1, cond_true, cond_false]; first | done | omega)) ?_ | refine wT (by first | omega | (simp only [W1, cond_true, cond_false]; first | done | omega)) ?_ | refine wF (by intro _h; first | omega | (simp only [W1, cond_true, cond_false] at _h; first | done | omega)) ?_ | (refine wS ?_ ?_ <;> intro _h <;> simp only [W1, cond_true, cond_false] at _h))
      all_goals simp only [W1, W2, owesN, owesX, owesR, cond_true, cond_false]
      repeat' (first | apply And.intro | intro _hc)
      all_goals first | exact leV (by simp) | exact leV (by decide) | exact AV.le_refl _ | exact AV.le_any _ | exact OLe.refl _ | exact OLe.none _ | exact LeH.refl _ | exact LeL.refl _ | exact AV.le.bs _ | exact AV.le.sb _ | omega | contradiction
    | some t =>
      repeat' (first | refine wC (by first | omega | (simp only [W1, cond_true, cond_false]; first | done | omega)) ?_ | refine wT (by first | omega | (simp only [W1, cond_true, cond_false]; first | done | omega)) ?_ | refine wF (by intro _h; first | omega | (simp only [W1, cond_true, cond_false] at _h; first | done | omega)) ?_ | (refine wS ?_ ?_ <;> intro _h <;> simp only [W1, cond_true, cond_false] at _h))
      all_goals simp only [W1, W2, owesN, owesX, owesR, cond_true, cond_false]
      repeat' (first | apply And.intro | intro _hc)
      all_goals first | exact leV (by simp) | exact leV (by decide) | exact AV.le_refl _ | exact AV.le_any _ | exact OLe.refl _ | exact OLe.none _ | exact LeH.refl _ | exact LeL.refl _ | exact AV.le.bs _ | exact AV.le.sb _ | omega | contradiction
noncomputable def c8L : CT Tryd.prog Γm := CT.lawE A8 (fun _ => True) 8 Tryd.f8 (bodyOf Tryd.f8) 38 [.tmp 2] Tryd.func8 (by kernel_rfl) (by kernel_rfl) (by kernel_rfl) (by kernel_rfl) (fun _ _ => by simp [A8]) (fun x _ => lawTP x)
end Go.Eng.TA

/- The tables that the rows name: what the rows' condition gives. -/
namespace Go.Proofs.YtmjbindplgpjjaaDoor
open Go Go.ChangeShapes Go.WideShapes Go.ChangeAt Go.WideMaps Go.WideElems Go.RowKit Go.Eng Go.Eng.TA
set_option linter.unusedSimpArgs false
set_option linter.unusedVariables false
theorem own : ownKnob Tryd.prog.godebug = none := by kernel_rfl
abbrev laidL : List (String × DataW Unit) := [("unicode/utf8.acceptRanges", Rows.laid_unicode_utf8_acceptRanges), ("unicode/utf8.first", Rows.laid_unicode_utf8_first)]
def ren8 : Go.Shelf.Ren := ⟨id, fun t => if t = 5 then 5 else if t = 119 then 192 else if t = 138 then 194 else 195, fun g => if g = 3 then 0 else 1⟩
theorem ren8T : U8Types Tryd.prog ren8 where
  t5 := Tryd.underlying5
  t119 := Tryd.underlying192
  t138 := Tryd.underlying194
  t139 := Tryd.underlying195
theorem ren8X : U8Extra Tryd.prog ren8 where
  n3 := by kernel_rfl
  n4 := by kernel_rfl
  y3 := by kernel_rfl
  y4 := by kernel_rfl
  c5 := by kernel_rfl
  c119 := by kernel_rfl
  c138 := by kernel_rfl
theorem data8 : Rows.laid_unicode_utf8_first = Lib.firstData ∧ (Rows.laid_unicode_utf8_acceptRanges : DataW Unit) = Lib.acceptData := ⟨by kernel_rfl, by kernel_rfl⟩
theorem globals_ok {W : World} (h : laidMetH Tryd.prog laidL W) : Globals Γm (σof W) := by
  rw [MakeChecks.laidMetH_plain _ _ _ (by kernel_rfl)] at h
  have h1 := Go.Lib.laidMet.reads h (n := "unicode/utf8.first") (d := Lib.firstData) (by rw [← data8.1]; exact List.mem_cons_of_mem _ (List.mem_cons_self ..))
  have h2 := Go.Lib.laidMet.reads h (n := "unicode/utf8.acceptRanges") (d := Lib.acceptData) (by rw [← data8.2]; exact List.mem_cons_self ..)
  have hT : Lib.Utf8Tabs 0 1 W := utf8Tabs_of_readsT ren8T ren8X h1 h2
  intro g
  unfold Γm
  split
  · rename_i hg
    obtain rfl := Nat.eq_of_beq_eq_true hg
    refine .pa 1 256 _ ⟨0, 0, none⟩ (fun e j => .int .u8 (Lib.firstT e : Int)) rfl (fun _ => rfl) (fun e j c he hc => ?_) (fun e j c he hc => ?_)
    · cases j with
      | zero => simpa using σof_of (hT.1 e he)
      | succ j => simp [fstF] at hc
    · cases j with
      | zero => simp [fstF] at hc; subst hc; exact .v _
      | succ j => simp [fstF] at hc
  · split
    · rename_i hg
      obtain rfl := Nat.eq_of_beq_eq_true hg
      refine .pa 2 16 _ ⟨1, 0, none⟩ (fun e j => .int .u8 (if j = 0 then (Lib.accLo e : Int) else (Lib.accHi e : Int))) rfl (fun _ => rfl) (fun e j c he hc => ?_) (fun e j c he hc => ?_)
      · match j with
        | 0 => simpa [Nat.mul_comm] using σof_of (hT.2 e he).1
        | 1 => simpa [Nat.mul_comm] using σof_of (hT.2 e he).2
        | j + 2 => simp [accF] at hc
      · match j with
        | 0 => simp [accF] at hc; subst hc; exact .v _
        | 1 => simp [accF] at hc; subst hc; exact .v _
        | j + 2 => simp [accF] at hc
    · exact .any _
end Go.Proofs.YtmjbindplgpjjaaDoor

/- TxParses holds at every input: the tables unicode/utf8.first and unicode/utf8.acceptRanges as the program lays them (tied). -/
namespace Go.Proofs.YtmjbindplgpjjaaDoor
open Go Go.ChangeShapes Go.WideShapes Go.ChangeAt Go.WideMaps Go.WideElems Go.RowKit Go.Eng Go.Eng.TA
set_option linter.unusedSimpArgs false
set_option linter.unusedVariables false

set_option maxRecDepth 100000 in
theorem txParses_lifted (os : Os) (started : os.Started) (H : Type) (enc : TypeId × Value → H) :
    ReturnsInHanded {} Tryd.checked os 8 .any (fun w args => (Rows.txParsesSpec.pre enc Tryd.prog Tryd.f8 [] false w args ∧ laidMetH Tryd.prog laidL w) ∧ sizedMet enc Tryd.prog Tryd.f8 (OpenSpec.ofChange Rows.txParsesSpec) false w args)
      (Rows.txParsesSpec.post enc Tryd.prog Tryd.f8 false true false false) := by
  refine returnsInHanded_of_change_and (C := Tryd.checked) (X := fun w _ => laidMetH Tryd.prog laidL w) (fun _ _ _ hh h => h.of_heap hh) own started (by kernel_rfl) Tryd.func8
    (ChangeSpec.witness_shaped (enc := enc) (C := Tryd.checked) (os := os) (X := fun w _ => laidMetH Tryd.prog laidL w) false (World.laidAll Tryd.prog os laidL) #[.string ⟨#[]⟩] 8 (World.laidAll_os _ _ _) (World.shaped_of_ZipB (by kernel_rfl) (by kernel_rfl)) (by kernel_rfl) (by kernel_rfl) (by kernel_rfl)
      (by rw [MakeChecks.laidMetH_plain _ _ _ (by kernel_rfl)]; exact laidMet_laidAll _ (by kernel_rfl) (by kernel_rfl))) ?_
  intro W base args ds gs before hval0 hW _ _ hL _
  have hval : ∀ (j : Nat) t v, Tryd.f8.params[j]? = some t → args[j]? = some v → Value.okWide Tryd.prog W .any base t v := hval0
  have hW' := hW
  obtain ⟨p, q, hA0, hV, rfl, hfz, hnd⟩ := hW
  have hA : DataW.TrodAll enc Tryd.prog W 0 (fun _ => true) true Tryd.f8.params.toList args.toList ds p := hA0
  rw [Tryd.params8] at hA hval
  obtain ⟨v0, d0, rfl, rfl, h0⟩ := trodAll_one hA
  obtain ⟨rfl, rfl⟩ := trodVars_none hV
  obtain ⟨n0, rfl, rfl, rfl, w0⟩ := Go.ChangeMaps.open_string Tryd.underlying9 (hval 0 9 v0 rfl rfl) h0
  refine (calls_true c8L (xs := [.v (.string n0)]) (law_in (A := A8) (pre := fun _ => True) (x := n0) trivial (.refl _)) (globals_ok hL) (.one (V_v _) .none)).mono fun e W' ⟨he, ho⟩ => ?_
  subst he
  exact ⟨_, rfl, post_true (tb := 4) (by kernel_rfl) (by kernel_rfl) (by kernel_rfl) (by kernel_rfl) (by kernel_rfl) Tryd.underlying4 hW' rfl rfl ho⟩

theorem txParses_holds : Rows.TxParsesSaid :=
  OpenClaim.holds_of_wide 8 Tryd.f8 rfl rfl rfl rfl rfl rfl rfl ⟨rfl, rfl, rfl, rfl, rfl⟩ rfl rfl rfl rfl rfl (by kernel_rfl) Tryd.func8 (by kernel_rfl)
    (of_decide_eq_true (by kernel_rfl)) (by unfold Func.isWrapper; first | (rw [if_pos (by decide +kernel)]; kernel_rfl) | (rw [if_neg (by decide +kernel)]; exact ⟨rfl, rfl⟩))
    (fun os started H enc _ => txParses_lifted os started H enc)
theorem txParses_card : Rows.TxParsesCardSaid :=
  Claim7.holds_tied_plain_at .later [] [.data, .pinned] true (true, "04bf13180d5c01f5cefcb13e3375edc3305cec317436f21bd83698835d5e56cf") false
    txParses_holds (fun _ h => by cases h) (by kernel_rfl) (fun _ h => by cases h) txParses_row_tie rfl ⟨rfl, rfl⟩ (by kernel_rfl) rfl
    (fun f fn hf hfn => by
      obtain rfl : f = 8 := Option.some.inj ((show Tryd.prog.funcNamed "hallmoot/hallmootlaw08.TxParses" = some 8 by kernel_rfl).symm.trans hf) |>.symm
      obtain rfl : fn = Tryd.f8 := (Option.some.inj (Tryd.func8.symm.trans hfn)).symm
      exact ⟨by kernel_rfl, fun j t ht => by
        rw [Tryd.params8] at ht
        have hm : t ∈ [9] := by simpa using Array.mem_of_getElem? ht
        have hall : ([9].all fun u => !Tryd.prog.wantsStandIn u) = true := by kernel_rfl
        exact (show Tryd.prog.wantsStandIn t = false by simpa using List.all_eq_true.1 hall t hm)⟩)
    (by kernel_rfl)
#print axioms txParses_card
end Go.Proofs.YtmjbindplgpjjaaDoor
