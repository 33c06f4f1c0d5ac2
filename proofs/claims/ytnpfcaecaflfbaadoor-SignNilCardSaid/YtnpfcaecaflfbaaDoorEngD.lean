/- An abstract evaluator of the model's code, part D: the world under loads, stores and new blocks. -/
import Derived.Test.YtnpfcaecaflfbaaDoorEngC
import Derived.Laws.Sem
namespace Go.Eng
open Go

/-! ### types -/
section types
variable {P : Program} {t : TypeId} {w : World}
theorem run_underlying {d : TypeDesc} (h : P.underlying t = some d) : (underlying t).run P w = .ok d w := by
  simp [underlying, h]
theorem run_typeInfo {i : TypeInfo} (h : P.info? t = some i) : (typeInfo t).run P w = .ok i w := by
  simp [typeInfo, h]
theorem szOf_some {m : Nat} (h : szOf P t = some m) : ∃ i, P.info? t = some i ∧ i.size = m := by
  unfold szOf at h
  cases hi : P.info? t with
  | none => simp [hi] at h
  | some i => exact ⟨i, rfl, by simpa [hi] using h⟩
theorem run_sizeOf {m : Nat} (h : szOf P t = some m) : (sizeOf t).run P w = .ok m w := by
  obtain ⟨i, hi, rfl⟩ := szOf_some h
  simp [sizeOf, run_typeInfo hi]
theorem bytesOfT_some {m : Nat} (h : bytesOfT P t = some m) : ∃ i, P.info? t = some i ∧ i.bytes = m := by
  unfold bytesOfT at h
  cases hi : P.info? t with
  | none => simp [hi] at h
  | some i => exact ⟨i, rfl, by simpa [hi] using h⟩
theorem run_isAgg {b : Bool} (h : aggT P t = some b) : (isAgg t).run P w = .ok b w := by
  unfold aggT at h
  unfold isAgg
  cases hu : P.underlying t with
  | none => simp [hu] at h
  | some d =>
    simp only [Sem.run_bind, run_underlying hu, Result.andThen_ok]
    cases d <;> simp_all
theorem run_zeroValue {z : List AV} (h : zeroOf P t = some z) : ∃ v, (zeroValue t).run P w = .ok v w ∧ z = v.cells.toList.map .v := by
  unfold zeroOf at h
  cases hi : P.info? t with
  | none => simp [hi] at h
  | some i =>
    cases hz : i.zero with
    | none => simp [hi, hz] at h
    | some v => exact ⟨v, by simp [zeroValue, run_typeInfo hi, hz], by simpa [hi, hz] using h.symm⟩
theorem elemOfT_some {e : TypeId} (h : elemOfT P t = some e) : P.underlying t = some (.slice e) := by
  unfold elemOfT at h
  split at h <;> simp_all
theorem arrOfT_some {n : Nat} {e : TypeId} (h : arrOfT P t = some (n, e)) : P.underlying t = some (.array n e) := by
  unfold arrOfT at h
  split at h <;> simp_all
end types

/-! ### rows of cells -/
theorem Addr.add_none {a : Addr} (h : a.spot = none) (n : Nat) : a.add n = ⟨a.block, a.off + n, none⟩ := by
  unfold Addr.add
  split
  · rename_i hn; subst hn; cases a; simp_all
  · rfl
theorem cell?_row {w : World} {b : Nat} {c : Array Value} {T : TypeId} {fr : Nat × Nat} (h : w.heap[b]? = some (.cells c T fr)) (o : Nat) : w.cell? ⟨b, o, none⟩ = c[o]? := by
  simp [World.cell?, h]
theorem World.row.cell {w : World} {b : Nat} {c : Array Value} (h : World.row w b c) (o : Nat) : w.cell? ⟨b, o, none⟩ = c[o]? := by
  obtain ⟨T, fr, h, _⟩ := h
  exact cell?_row h o
theorem World.row.frozen {w : World} {b : Nat} {c : Array Value} (h : World.row w b c) {o : Nat} (ho : o < c.size) : w.frozen? ⟨b, o, none⟩ = false := by
  obtain ⟨T, fr, h, hf⟩ := h
  obtain ⟨lo, hi⟩ := fr
  simpa [World.frozen?, h] using hf o ho

theorem run_loadCellsFrom {P : Program} {w : World} {a : Addr} (ys : List Value) : ∀ (i : Nat) (acc : Array Value),
    (∀ j y, ys[j]? = some y → w.cell? (a.add (i + j)) = some y) → (loadCellsFrom a i ys.length acc).run P w = .ok (acc ++ ys.toArray) w := by
  induction ys with
  | nil => intro i acc _; simp [loadCellsFrom]
  | cons y ys ih =>
    intro i acc h
    have h0 := h 0 y (by simp)
    simp only [Nat.add_zero] at h0
    simp only [List.length_cons, loadCellsFrom, Sem.run_bind, run_load, h0, Result.andThen_ok]
    rw [ih (i + 1) (acc.push y) (fun j z hz => by have := h (j + 1) z (by simpa using hz); rwa [show i + 1 + j = i + (j + 1) by omega])]
    simp
theorem run_loadCells {P : Program} {w : World} {a : Addr} (ys : List Value) (h : ∀ j y, ys[j]? = some y → w.cell? (a.add j) = some y) :
    (loadCells a ys.length).run P w = .ok ys.toArray w := by
  unfold loadCells
  rw [run_loadCellsFrom ys 0 #[] (fun j y hy => by simpa using h j y hy)]
  simp
/-- a load of 'm' cells that are known one by one -/
theorem run_loadCells_of {P : Program} {w : World} {a : Addr} {m : Nat} (g : Nat → Value) (h : ∀ j, j < m → w.cell? (a.add j) = some (g j)) :
    (loadCells a m).run P w = .ok ((List.range m).map g).toArray w := by
  have := run_loadCells (P := P) (w := w) (a := a) ((List.range m).map g) (fun j y hy => by
    simp only [List.getElem?_map] at hy
    by_cases hj : j < m
    · simp [List.getElem?_range hj] at hy; subst hy; exact h j hj
    · simp [Nat.le_of_not_lt hj] at hy)
  simpa using this

/-- the row 'b' gets other cells -/
def putRow (w : World) (b : Nat) (c : Array Value) : World :=
  { w with heap := w.heap.modify b fun
      | .cells _ T fr => .cells c T fr
      | o => o }
def splice (c : Array Value) (o : Nat) : List Value → Array Value
  | [] => c
  | v :: vs => splice (c.setIfInBounds o v) (o + 1) vs
theorem splice_size (vs : List Value) : ∀ (c : Array Value) (o : Nat), (splice c o vs).size = c.size := by
  induction vs with
  | nil => intro c o; rfl
  | cons v vs ih => intro c o; simp [splice, ih]
theorem splice_get (vs : List Value) : ∀ (c : Array Value) (o k : Nat), o + vs.length ≤ c.size →
    (splice c o vs)[k]? = if o ≤ k ∧ k < o + vs.length then vs[k - o]? else c[k]? := by
  induction vs with
  | nil => intro c o k _; simp [splice]; intro h1 h2; omega
  | cons v vs ih =>
    intro c o k h
    simp only [List.length_cons] at h
    rw [splice, ih _ _ _ (by simp; omega)]
    by_cases h1 : o + 1 ≤ k ∧ k < o + 1 + vs.length
    · rw [if_pos h1, if_pos (by simp; omega)]
      rw [show k - o = (k - (o + 1)) + 1 by omega]; simp
    · rw [if_neg h1]
      by_cases h2 : k = o
      · subst h2
        rw [if_pos ⟨Nat.le_refl _, by simp⟩, Array.getElem?_setIfInBounds, if_pos rfl, if_pos (by omega)]
        simp
      · rw [if_neg (by simp; omega), Array.getElem?_setIfInBounds, if_neg (by omega)]

theorem putRow_heap {w : World} {b : Nat} {c c' : Array Value} {T : TypeId} {fr : Nat × Nat} (h : w.heap[b]? = some (.cells c T fr)) : (putRow w b c').heap[b]? = some (.cells c' T fr) := by
  simp [putRow, Array.getElem?_modify, h]
theorem putRow_other {w : World} {b b' : Nat} {c' : Array Value} (h : b' ≠ b) : (putRow w b c').heap[b']? = w.heap[b']? := by
  simp [putRow, Array.getElem?_modify, Ne.symm h]
theorem putRow_size {w : World} {b : Nat} {c' : Array Value} : (putRow w b c').heap.size = w.heap.size := by simp [putRow]
theorem putRow_same {w : World} {b : Nat} {c : Array Value} {T : TypeId} {fr : Nat × Nat} (h : w.heap[b]? = some (.cells c T fr)) : putRow w b c = w := by
  have : (w.heap.modify b fun | .cells _ T fr => .cells c T fr | o => o) = w.heap := by
    apply Array.ext_getElem?
    intro i
    rw [Array.getElem?_modify]
    split
    · rename_i hi; subst hi; rw [h]; rfl
    · rfl
  simp [putRow, this]
theorem putRow_putRow {w : World} {b : Nat} {c c' : Array Value} : putRow (putRow w b c) b c' = putRow w b c' := by
  have : ((w.heap.modify b fun | .cells _ T fr => .cells c T fr | o => o).modify b fun | .cells _ T fr => .cells c' T fr | o => o) =
      (w.heap.modify b fun | .cells _ T fr => .cells c' T fr | o => o) := by
    apply Array.ext_getElem?
    intro i
    rw [Array.getElem?_modify, Array.getElem?_modify, Array.getElem?_modify]
    split
    · cases w.heap[i]? with
      | none => rfl
      | some o => cases o <;> rfl
    · rfl
  simp [putRow, this]
theorem setCell_putRow {w : World} {b o : Nat} {c : Array Value} {T : TypeId} {fr : Nat × Nat} {v : Value} (h : w.heap[b]? = some (.cells c T fr)) :
    w.setCell ⟨b, o, none⟩ v = putRow w b (c.setIfInBounds o v) := by
  have : (w.setCell ⟨b, o, none⟩ v).heap = (putRow w b (c.setIfInBounds o v)).heap := by
    apply Array.ext_getElem?
    intro i
    simp only [World.setCell, putRow, Array.getElem?_modify]
    split
    · rename_i hi; subst hi; rw [h]; rfl
    · rfl
  have e : w.setCell ⟨b, o, none⟩ v = { w with heap := (w.setCell ⟨b, o, none⟩ v).heap } := rfl
  rw [e, this]; rfl

theorem run_storeCells {P : Program} {a : Addr} (ha : a.spot = none) (vs : List Value) (hv : ∀ v ∈ vs, v.oneCell' = true) : ∀ (i : Nat) (w : World) (c : Array Value),
    World.row w a.block c → a.off + i + vs.length ≤ c.size → (storeCells a vs i).run P w = .ok () (putRow w a.block (splice c (a.off + i) vs)) := by
  induction vs with
  | nil =>
    intro i w c h _
    obtain ⟨T, fr, h, _⟩ := h
    simp [storeCells, splice, putRow_same h]
  | cons v vs ih =>
    intro i w c hrow hlen
    simp only [List.length_cons] at hlen
    obtain ⟨T, fr, h, hf⟩ := hrow
    have hc : w.cell? (a.add i) = some (c[a.off + i]'(by omega)) := by
      rw [Addr.add_none ha, cell?_row h]; simp
    have hfr : w.frozen? (a.add i) = false := by
      rw [Addr.add_none ha]; exact World.row.frozen ⟨T, fr, h, hf⟩ (by omega)
    simp only [storeCells, Sem.run_bind, run_store P w _ v .plain (hv v (by simp)), hc, hfr]
    simp only [Bool.false_eq_true, if_false, Result.andThen_ok]
    rw [Addr.add_none ha, setCell_putRow h]
    rw [ih (fun x hx => hv x (by simp [hx])) (i + 1) _ (c.setIfInBounds (a.off + i) v) ⟨T, fr, putRow_heap h, by simpa using hf⟩ (by simp; omega)]
    rw [putRow_putRow, splice, Nat.add_assoc]

/-! ### the relation under a store, under a new block -/
def updG (get : Get) (i : Nat) (b : Option Blk) : Get := fun k => if k = i then b else get k

theorem mvAt.mono {σ σ' : Store} {va : Bool} {cs : List AV} {v : Value} (hs : σ.le σ') (h : mvAt σ va cs v) : mvAt σ' va cs v := by
  cases va with
  | true => obtain ⟨ys, h1, h2, h3⟩ := h; exact ⟨ys, h1, h2, fun j c y hc hy => (h3 j c y hc hy).mono hs⟩
  | false => obtain ⟨c, h1, h2⟩ := h; exact ⟨c, h1, h2.mono hs⟩
theorem blkAt_mono {σ σ' : Store} {φ φ' : Places} {w w' : World} {L : Lc} {b : Blk} (hs : σ.le σ') (hp : φ.le φ') (hw : w'.heap[L.b]? = w.heap[L.b]?)
    (h : blkAt σ φ w L b) : blkAt σ' φ' w' L b := by
  cases b with
  | row cs =>
    obtain ⟨c, ⟨T, fr, h1, h2⟩, h3, h4, h5⟩ := h
    exact ⟨c, ⟨T, fr, by rw [hw]; exact h1, h2⟩, h3, h4, fun j x hx => let ⟨y, hy, hv⟩ := h5 j x hx; ⟨y, hy, hv.mono hs hp⟩⟩
  | arr sz n f =>
    obtain ⟨e1, e2, c, ⟨T, fr, h1, h2⟩, h3, h4, h5⟩ := h
    exact ⟨e1, e2, c, ⟨T, fr, by rw [hw]; exact h1, h2⟩, h3, h4, fun e he => ⟨(h5 e he).1, fun j x hx => let ⟨y, hy, ho, hv⟩ := (h5 e he).2 j x hx; ⟨y, hy, ho, hv.mono hs⟩⟩⟩
  | mp cels ka va n has val =>
    obtain ⟨es, clock, h1, h2, h3, h4, h5⟩ := h
    exact ⟨es, clock, by rw [hw]; exact h1, h2, h3, fun e he => let ⟨k, k1, k2, k3, k4⟩ := h4 e he; ⟨k, k1, k2, k3, k4.mono hs⟩, h5⟩
  | sit s pos => unfold blkAt at *; rw [hw]; exact h

section
variable {κ : Ctx} {σ : Store} {φ : Places} {get : Get} {w : World}

/-- an owned block is written -/
theorem R.write (h : R κ σ φ get w) {i : Nat} {L : Lc} {b : Option Blk} {w' : World} (hi : φ i = some L) (hr : L.virt = false) (hg : (get i).isSome)
    (hw : ∀ b', b' ≠ L.b → w'.heap[b']? = w.heap[b']?) (hsz : w'.heap.size = w.heap.size) (ht : w'.tape = w.tape) (ho : w'.os = w.os) (hu : w'.output = w.output)
    (hb : ∀ blk, b = some blk → blkAt σ φ w' L blk) (hwf : ∀ blk, b = some blk → blkWf blk)
    (hlen : ∀ sz n f, b = some (.arr sz n f) → n = L.n) : R κ σ φ (updG get i b) w' where
  cell := fun b' o y hy => by
    have hne : b' ≠ L.b := fun e => by subst e; rw [h.apart i L hi hr hg o] at hy; simp at hy
    have := h.cell b' o y hy
    simpa [World.cell?, hw b' hne] using this
  apart := fun j L' hj hv hgj o => by
    by_cases e : j = i
    · subst e; exact h.apart j L' hj hv hg o
    · exact h.apart j L' hj hv (by simpa [updG, e] using hgj) o
  obj := fun j blk L' hj hp hv => by
    by_cases e : j = i
    · subst e
      have : L' = L := by rw [hi] at hp; exact (Option.some.inj hp).symm
      subst this
      exact hb blk (by simpa [updG] using hj)
    · have hgj : get j = some blk := by simpa [updG, e] using hj
      exact blkAt_mono (Store.le_refl σ) (Places.le_refl φ) (hw _ (h.dis j i L' L e (by simp [hgj]) hg hp hi hv hr)) (h.obj j blk L' hgj hp hv)
  dis := fun j k Lj Lk hne hj hk pj pk vj vk => by
    have f : ∀ x, ((updG get i b) x).isSome → (get x).isSome := fun x hx => by
      by_cases e : x = i
      · subst e; exact hg
      · simpa [updG, e] using hx
    exact h.dis j k Lj Lk hne (f j hj) (f k hk) pj pk vj vk
  lt := fun j L' hj hv => by rw [hsz]; exact h.lt j L' hj hv
  tape := by rw [ht]; exact h.tape
  os := by rw [ho]; exact h.os
  output := by rw [hu]; exact h.output
  grow := by rw [hsz]; exact h.grow
  old := fun b' hb' hB => by
    have hne : b' ≠ L.b := fun e => by
      subst e
      rcases h.mine i L hi hr with hm | hm
      · exact hB hm
      · exact absurd hb' (Nat.not_lt.2 hm)
    rw [hw b' hne]; exact h.old b' hb' hB
  store := h.store
  mine := h.mine
  base := h.base
  wf := fun j blk hj => by
    by_cases e : j = i
    · exact hwf blk (by simpa [updG, e] using hj)
    · exact h.wf j blk (by simpa [updG, e] using hj)
  len := fun j K sz n f hj hp => by
    by_cases e : j = i
    · subst e; rw [hi] at hp; cases hp; exact hlen sz n f (by simpa [updG] using hj)
    · exact h.len j K sz n f (by simpa [updG, e] using hj) hp

/-- a new block -/
theorem R.new (h : R κ σ φ get w) {nb : Nat} {L : Lc} {blk : Blk} {w' : World} {o : Obj} (hn : φ nb = none)
    (hheap : w'.heap = w.heap.push o) (hL : L.b = w.heap.size) (ht : w'.tape = w.tape) (ho : w'.os = w.os) (hu : w'.output = w.output)
    (hb : ∀ φ' : Places, φ.le φ' → blkAt σ φ' w' L blk) (hwf : blkWf blk)
    (hlen : ∀ sz n f, blk = .arr sz n f → n = L.n) : R κ σ (fun k => if k = nb then some L else φ k) (updG get nb (some blk)) w' := by
  have hle : φ.le (fun k => if k = nb then some L else φ k) := fun i L' hi => by
    by_cases e : i = nb
    · subst e; rw [hn] at hi; simp at hi
    · simp [e, hi]
  have hold : ∀ b', b' < w.heap.size → w'.heap[b']? = w.heap[b']? := fun b' hb' => by rw [hheap, Array.getElem?_push]; simp; omega
  refine ⟨fun b' o' y hy => ?_, fun j L' hj hv hg o' => ?_, fun j blk' L' hj hp hv => ?_, fun j k Lj Lk hne hj hk pj pk vj vk => ?_, fun j L' hj hv => ?_, by rw [ht]; exact h.tape, by rw [ho]; exact h.os,
    by rw [hu]; exact h.output, ?_, fun b' hb' hB => ?_, h.store, fun j L' hj hv => ?_, h.base, fun j b' hj => ?_, fun j K sz n f hj hp => ?_⟩
  · have := h.cell b' o' y hy
    have hb' : b' < w.heap.size := by
      rcases Nat.lt_or_ge b' w.heap.size with k | k
      · exact k
      · simp [World.cell?, Array.getElem?_eq_none k] at this
    simpa [World.cell?, hold b' hb'] using this
  · by_cases e : j = nb
    · subst e
      simp at hj; subst hj
      cases hy : σ L.b o' with
      | none => rfl
      | some y =>
        have := h.cell _ _ _ hy
        simp [World.cell?, hL] at this
    · simp [e] at hj
      exact h.apart j L' hj hv (by simpa [updG, e] using hg) o'
  · by_cases e : j = nb
    · subst e
      simp at hp; subst hp
      have : blk' = blk := by simpa [updG] using hj.symm
      subst this
      exact hb _ hle
    · simp [e] at hp
      have hgj : get j = some blk' := by simpa [updG, e] using hj
      exact blkAt_mono (Store.le_refl σ) hle (hold _ (h.lt j L' hp hv)) (h.obj j blk' L' hgj hp hv)
  · have f : ∀ x, x ≠ nb → ((updG get nb (some blk)) x).isSome → (get x).isSome := fun x e hx => by simpa [updG, e] using hx
    by_cases ej : j = nb
    · subst ej
      simp at pj; subst pj
      have ek : k ≠ j := fun e => hne e.symm
      simp [ek] at pk
      have := h.lt k Lk pk vk
      omega
    · simp [ej] at pj
      by_cases ek : k = nb
      · subst ek
        simp at pk; subst pk
        have := h.lt j Lj pj vj
        omega
      · simp [ek] at pk
        exact h.dis j k Lj Lk hne (f j ej hj) (f k ek hk) pj pk vj vk
  · rw [hheap, Array.size_push]
    by_cases e : j = nb
    · subst e; simp at hj; subst hj; omega
    · simp [e] at hj; have := h.lt j L' hj hv; omega
  · rw [hheap, Array.size_push]; have := h.grow; omega
  · rw [hold b' (by have := h.grow; omega)]; exact h.old b' hb' hB
  · by_cases e : j = nb
    · subst e; simp at hj; subst hj; exact .inr (by rw [hL]; exact h.grow)
    · simp [e] at hj; exact h.mine j L' hj hv
  · by_cases e : j = nb
    · have : b' = blk := by simpa [updG, e] using hj.symm
      subst this; exact hwf
    · exact h.wf j b' (by simpa [updG, e] using hj)
  · by_cases e : j = nb
    · subst e; simp at hp; subst hp
      have : blk = .arr sz n f := by simpa [updG] using hj
      exact hlen sz n f this
    · simp [e] at hp; exact h.len j K sz n f (by simpa [updG, e] using hj) hp

theorem R.drop (h : R κ σ φ get w) {get' : Get} (hs : ∀ i b, get' i = some b → get i = some b) : R κ σ φ get' w where
  cell := h.cell
  apart := fun i L hi hv hg o => by
    cases hb : get' i with
    | none => simp [hb] at hg
    | some b => exact h.apart i L hi hv (by simp [hs i b hb]) o
  obj := fun i blk L hi hp hv => h.obj i blk L (hs i blk hi) hp hv
  dis := fun i j Li Lj hne hi hj pi pj vi vj => by
    cases hb : get' i with
    | none => simp [hb] at hi
    | some b =>
      cases hb' : get' j with
      | none => simp [hb'] at hj
      | some b' => exact h.dis i j Li Lj hne (by simp [hs i b hb]) (by simp [hs j b' hb']) pi pj vi vj
  lt := h.lt
  tape := h.tape
  os := h.os
  output := h.output
  grow := h.grow
  old := h.old
  store := h.store
  mine := h.mine
  base := h.base
  wf := fun i b hi => h.wf i b (hs i b hi)
  len := fun i L sz n f hi hp => h.len i L sz n f (hs i _ hi) hp

theorem R.weak (h : R κ σ φ get w) {i : Nat} {b b' : Blk} (hg : get i = some b) (hb : ∀ L, blkAt σ φ w L b → blkAt σ φ w L b') (hwf : blkWf b')
    (hlen : ∀ sz n f, b' = .arr sz n f → ∃ sz' f', b = .arr sz' n f') : R κ σ φ (updG get i (some b')) w where
  cell := h.cell
  apart := fun j L hj hv hgj o => by
    by_cases e : j = i
    · subst e; exact h.apart j L hj hv (by simp [hg]) o
    · exact h.apart j L hj hv (by simpa [updG, e] using hgj) o
  obj := fun j blk L hj hp hv => by
    by_cases e : j = i
    · subst e
      have : blk = b' := by simpa [updG] using hj.symm
      subst this
      exact hb L (h.obj j b L hg hp hv)
    · exact h.obj j blk L (by simpa [updG, e] using hj) hp hv
  dis := fun j k Lj Lk hne hj hk pj pk vj vk => by
    have f : ∀ x, ((updG get i (some b')) x).isSome → (get x).isSome := fun x hx => by
      by_cases e : x = i
      · subst e; simp [hg]
      · simpa [updG, e] using hx
    exact h.dis j k Lj Lk hne (f j hj) (f k hk) pj pk vj vk
  lt := h.lt
  tape := h.tape
  os := h.os
  output := h.output
  grow := h.grow
  old := h.old
  store := h.store
  mine := h.mine
  base := h.base
  wf := fun j blk hj => by
    by_cases e : j = i
    · have : blk = b' := by simpa [updG, e] using hj.symm
      subst this; exact hwf
    · exact h.wf j blk (by simpa [updG, e] using hj)
  len := fun j K sz n f hj hp => by
    by_cases e : j = i
    · subst e
      obtain ⟨sz', f', rfl⟩ := hlen sz n f (by simpa [updG] using hj)
      exact h.len j K _ _ _ hg hp
    · exact h.len j K sz n f (by simpa [updG, e] using hj) hp

theorem R.drew (h : R κ σ φ get w) {w' : World} (hh : w'.heap = w.heap) (ht : w'.tape = w.tape) (ho : w'.os = w.os) (hu : w'.output = w.output) : R κ σ φ get w' where
  cell := fun b o y hy => by simpa [World.cell?, hh] using h.cell b o y hy
  apart := h.apart
  obj := fun i blk L hi hp hv => blkAt_mono (Store.le_refl σ) (Places.le_refl φ) (by rw [hh]) (h.obj i blk L hi hp hv)
  dis := h.dis
  lt := fun i L hi hv => by rw [hh]; exact h.lt i L hi hv
  tape := by rw [ht]; exact h.tape
  os := by rw [ho]; exact h.os
  output := by rw [hu]; exact h.output
  grow := by rw [hh]; exact h.grow
  old := fun b hb hB => by rw [hh]; exact h.old b hb hB
  store := h.store
  mine := h.mine
  base := h.base
  wf := h.wf
  len := h.len
end

end Go.Eng
