/- An abstract evaluator of the model's code, part J: operations that write or make memory. -/
import Derived.Test.YtnpfcaecaflfbaaDoorEngI
namespace Go.Eng
open Go
set_option linter.unusedSimpArgs false
set_option linter.unusedVariables false

def updGs (get : Get) : List (Nat × Option Blk) → Get
  | [] => get
  | (i, b) :: us => updGs (updG get i b) us
def newGs (get : Get) (nb : Nat) : List Blk → Get
  | [] => get
  | b :: bs => newGs (updG get nb (some b)) (nb + 1) bs

/-- 's' yields a value, and the world behind it is as 'out' tells -/
def Eff (P : Program) (κ : Ctx) (σ : Store) (φ : Places) (nb : Nat) (get : Get) (w : World) (s : Sem Value) (out : OpOut) : Prop :=
  ∃ v w' φ', s.run P w = .ok v w' ∧ φ.le φ' ∧ (∀ k, φ k = none → (k < nb ∨ nb + out.new.length ≤ k) → φ' k = none) ∧ V σ φ' out.val v ∧
    R κ σ φ' (newGs (updGs get out.upd) nb out.new) w'

section
variable {P : Program} {κ : Ctx} {σ : Store} {φ : Places} {get : Get} {w : World} {out : OpOut} {nb : Nat}

theorem Pur.eff {s : Sem Value} (h : Pur P σ φ w s out) (hR : R κ σ φ get w) : Eff P κ σ φ nb get w s out := by
  obtain ⟨v, hr, hv, h1, h2⟩ := h
  refine ⟨v, w, φ, hr, Places.le_refl φ, fun k hk _ => hk, hv, ?_⟩
  rw [h1, h2]; exact hR

/-- a number for an empty slice that may be nil -/
theorem R.virtual (h : R κ σ φ get w) (hn : φ nb = none) {L : Lc} (hv : L.virt = true) (b : Option Blk) (hwf : ∀ b', b = some b' → blkWf b') (hlen : ∀ sz n f, b = some (.arr sz n f) → n = L.n) :
    R κ σ (fun k => if k = nb then some L else φ k) (updG get nb b) w := by
  have hle : φ.le (fun k => if k = nb then some L else φ k) := fun i L' hi => by
    by_cases e : i = nb
    · subst e; rw [hn] at hi; simp at hi
    · simp [e, hi]
  have old : ∀ {j K}, (if j = nb then some L else φ j) = some K → K.virt = false → j ≠ nb ∧ φ j = some K := fun {j K} hj hk => by
    by_cases e : j = nb
    · simp [e] at hj; subst hj; rw [hv] at hk; simp at hk
    · exact ⟨e, by simpa [e] using hj⟩
  refine ⟨h.cell, fun j K hj hk hg o => ?_, fun j blk K hj hp hk => ?_, fun i j Li Lj hne hi hj pi pj vi vj => ?_, fun j K hj hk => ?_, h.tape, h.os, h.output, h.grow, h.old, h.store, fun j K hj hk => ?_, h.base, fun j b' hj => ?_, fun j K sz n f hj hp => ?_⟩
  · obtain ⟨e, hj⟩ := old hj hk
    exact h.apart j K hj hk (by simpa [updG, e] using hg) o
  · obtain ⟨e, hp⟩ := old hp hk
    exact blkAt_mono (Store.le_refl σ) hle rfl (h.obj j blk K (by simpa [updG, e] using hj) hp hk)
  · obtain ⟨ei, pi⟩ := old pi vi
    obtain ⟨ej, pj⟩ := old pj vj
    exact h.dis i j Li Lj hne (by simpa [updG, ei] using hi) (by simpa [updG, ej] using hj) pi pj vi vj
  · obtain ⟨_, hj⟩ := old hj hk
    exact h.lt j K hj hk
  · obtain ⟨_, hj⟩ := old hj hk
    exact h.mine j K hj hk
  · by_cases e : j = nb
    · exact hwf b' (by simpa [updG, e] using hj)
    · exact h.wf j b' (by simpa [updG, e] using hj)
  · by_cases e : j = nb
    · subst e; simp at hp; subst hp; exact hlen sz n f (by simpa [updG] using hj)
    · simp [e] at hp; exact h.len j K sz n f (by simpa [updG, e] using hj) hp

/-- the block of 'i' goes over to the new number 'nb' -/
theorem R.move (h : R κ σ φ get w) {i : Nat} {L L' : Lc} {blk : Blk} (hi : φ i = some L) (hr : L.virt = false) (hg : (get i).isSome) (hn : φ nb = none) (hb : L'.b = L.b)
    (hblk : ∀ φ' : Places, φ.le φ' → blkAt σ φ' w L' blk) (hwf : blkWf blk) (hlen : ∀ sz n f, blk = .arr sz n f → n = L'.n) : R κ σ (fun k => if k = nb then some L' else φ k) (updG (updG get i none) nb (some blk)) w := by
  have hne : i ≠ nb := fun e => by subst e; rw [hn] at hi; simp at hi
  have hle : φ.le (fun k => if k = nb then some L' else φ k) := fun j K hj => by
    by_cases e : j = nb
    · subst e; rw [hn] at hj; simp at hj
    · simp [e, hj]
  have hold : ∀ j, j ≠ nb → ((updG (updG get i none) nb (some blk)) j).isSome → j ≠ i ∧ (get j).isSome := fun j e hj => by
    simp only [updG, e, if_false] at hj
    by_cases e2 : j = i
    · simp [e2] at hj
    · exact ⟨e2, by simpa [e2] using hj⟩
  refine ⟨h.cell, fun j K hj hv hgj o => ?_, fun j b K hj hp hv => ?_, fun j k Lj Lk hjk hj hk pj pk vj vk => ?_, fun j K hj hv => ?_, h.tape, h.os, h.output, h.grow, h.old, h.store, fun j K hj hv => ?_, h.base, fun j b hj => ?_, fun j K sz n f hj hp => ?_⟩
  · by_cases e : j = nb
    · subst e; simp at hj; subst hj; rw [hb]; exact h.apart i L hi hr hg o
    · simp [e] at hj; exact h.apart j K hj hv (hold j e hgj).2 o
  · by_cases e : j = nb
    · subst e; simp at hp; subst hp
      have : b = blk := by simpa [updG] using hj.symm
      subst this; exact hblk _ hle
    · simp [e] at hp
      have hs := hold j e (by rw [hj]; rfl)
      have : get j = some b := by simpa [updG, e, hs.1] using hj
      exact blkAt_mono (Store.le_refl σ) hle rfl (h.obj j b K this hp hv)
  · by_cases ej : j = nb
    · subst ej; simp at pj; subst pj
      have ek : k ≠ j := fun e => hjk e.symm
      simp [ek] at pk
      obtain ⟨h1, h2⟩ := hold k ek hk
      rw [hb]; exact h.dis i k L Lk (fun e => h1 e.symm) hg h2 hi pk hr vk
    · simp [ej] at pj
      obtain ⟨h1, h2⟩ := hold j ej hj
      by_cases ek : k = nb
      · subst ek; simp at pk; subst pk
        rw [hb]; exact h.dis j i Lj L h1 h2 hg pj hi vj hr
      · simp [ek] at pk
        obtain ⟨h3, h4⟩ := hold k ek hk
        exact h.dis j k Lj Lk hjk h2 h4 pj pk vj vk
  · by_cases e : j = nb
    · subst e; simp at hj; subst hj; rw [hb]; exact h.lt i L hi hr
    · simp [e] at hj; exact h.lt j K hj hv
  · by_cases e : j = nb
    · subst e; simp at hj; subst hj; rw [hb]; exact h.mine i L hi hr
    · simp [e] at hj; exact h.mine j K hj hv
  · by_cases e : j = nb
    · have : b = blk := by simpa [updG, e] using hj.symm
      subst this; exact hwf
    · have hs := hold j e (by rw [hj]; rfl)
      exact h.wf j b (by simpa [updG, e, hs.1] using hj)
  · by_cases e : j = nb
    · subst e; simp at hp; subst hp
      have : blk = .arr sz n f := by simpa [updG] using hj
      exact hlen sz n f this
    · simp [e] at hp
      have hs := hold j e (by rw [hj]; rfl)
      exact h.len j K sz n f (by simpa [updG, e, hs.1] using hj) hp

/-! ### new rows -/
def pushRow (w : World) (c : Array Value) (T : TypeId) : World := { w with heap := w.heap.push (.cells c T) }
theorem run_newRow {T : TypeId} {c : Array Value} : (newRow T c).run P w = .ok ⟨w.heap.size, 0, none⟩ (pushRow w c T) := by
  simp [newRow, pushRow]
theorem pushRow_row {c : Array Value} {T : TypeId} : World.row (pushRow w c T) w.heap.size c :=
  ⟨T, (0, 0), by simp [pushRow], fun o _ => by simp⟩

theorem cellOk_one {c : AV} {y : Value} (h : cellOk c = true) (hv : V σ φ c y) : y.oneCell' = true := by
  cases hv with
  | base h0 =>
    cases h0 <;> simp [cellOk] at h <;> try rfl
    cases y <;> simp [oneC, Value.oneCell'] at h ⊢
  | agg => simp [cellOk] at h
  | tup => simp [cellOk] at h
  | _ => rfl
theorem cellsOf_ok {x : AV} {cs : List AV} {v : Value} (h : cellsOf x = some cs) (hv : V σ φ x v) : VL σ φ cs v.cells.toList := by
  unfold cellsOf at h
  split at h
  · simp at h; subst h
    obtain ⟨ys, rfl, hl, hp⟩ := hv.agg_inv
    exact VL_of_agg hl hp
  · split at h
    · rename_i hk
      simp at h; subst h
      have h1 := cellOk_one hk hv
      have : v.cells = #[v] := by cases v <;> simp [Value.cells, Value.oneCell'] at h1 ⊢
      rw [this]
      exact ⟨rfl, fun j c y hc hy => by
        cases j with
        | zero => simp at hc hy; subst hc; subst hy; exact hv
        | succ j => simp at hc⟩
    · simp at h
theorem zero_VL (v : Value) : VL σ φ (v.cells.toList.map .v) v.cells.toList :=
  ⟨by simp, fun j c y hc hy => by
    simp only [List.getElem?_map, hy, Option.map_some, Option.some.injEq] at hc
    subst hc; exact V_v y⟩

theorem all_get {p : AV → Bool} {cs : List AV} (h : cs.all p = true) {j : Nat} {c : AV} (hc : cs[j]? = some c) : p c = true :=
  List.all_eq_true.1 h c (List.mem_of_getElem? hc)

theorem alloc_ok {t : TypeId} {cs : List AV} {ys : Array Value} (h : (allocE P nb t cs).get = some out) (hv : VL σ φ cs ys.toList) (hR : R κ σ φ get w) (hn : φ nb = none) :
    Eff P κ σ φ nb get w (do pure (.pointer (some (← newRow t ys)))) out := by
  have hrun : (do pure (.pointer (some (← newRow t ys))) : Sem Value).run P w = .ok (.pointer (some ⟨w.heap.size, 0, none⟩)) (pushRow w ys t) := by
    simp only [Sem.run_bind, run_newRow, Result.andThen_ok, Sem.run_pure]
  unfold allocE at h
  split at h
  · rename_i n elem hu
    split at h
    · rename_i sz hsz
      split at h
      · rename_i hc
        simp only [Bool.and_eq_true, beq_iff_eq] at hc
        obtain ⟨⟨⟨hfree, hcell⟩, hlen⟩, hzl⟩ := hc
        simp only [Tree.get, Option.some.injEq] at h
        subst h
        let L : Lc := ⟨w.heap.size, 0, sz, ys.size, n, false⟩
        refine ⟨_, _, fun k => if k = nb then some L else φ k, hrun, ?_, ?_, ?_, ?_⟩
        · exact fun j K hj => by
            by_cases e : j = nb
            · subst e; rw [hn] at hj; simp at hj
            · simp [e, hj]
        · exact fun k hk hkk => by
            have : k ≠ nb := by simp at hkk; omega
            simp [this, hk]
        · exact .ap (L := L) (by simp) rfl
        · refine hR.new hn rfl rfl rfl rfl rfl (fun φ' hle => ⟨rfl, rfl, ys, pushRow_row, rfl, ?_, fun e he => ?_⟩) (fun e => chain_len _ (chunks_len hlen.symm) hzl) (fun sz' n' f' h' => by cases h'; rfl)
          · have := hv.1; simp at this; show 0 + n * sz ≤ ys.size; omega
          · have hlen' : cs.length = n * sz := hlen.symm
            obtain ⟨h1, h2⟩ := chain_chunks (σ := σ) (φ := φ') hzl hlen' he
            refine ⟨h1, fun j x hx => ?_⟩
            obtain ⟨d, hd, hdv⟩ := h2 j x hx
            have hlt : e * sz + j < ys.size := by
              have := (List.getElem?_eq_some_iff.1 hd).1
              have hl := hv.1; simp at hl; omega
            have hvd := hv.2 (e * sz + j) d ys[e * sz + j] hd (by simp [hlt])
            refine ⟨ys[e * sz + j], by show ys[0 + e * sz + j]? = _; simp [hlt], cellOk_one (all_get hcell hd) hvd, (hdv _).1 (hvd.free (all_get hfree hd))⟩
      · simp [Tree.get] at h
    · simp [Tree.get] at h
  · simp only [Tree.get, Option.some.injEq] at h
    subst h
    let L : Lc := ⟨w.heap.size, 0, 0, ys.size, 0, false⟩
    refine ⟨_, _, fun k => if k = nb then some L else φ k, hrun, ?_, ?_, ?_, ?_⟩
    · exact fun j K hj => by
        by_cases e : j = nb
        · subst e; rw [hn] at hj; simp at hj
        · simp [e, hj]
    · exact fun k hk hkk => by
        have : k ≠ nb := by simp at hkk; omega
        simp [this, hk]
    · exact .ptr (L := L) (i := nb) (o := 0) (by simp) rfl
    · refine hR.new hn rfl rfl rfl rfl rfl (fun φ' hle => ⟨ys, pushRow_row, rfl, ?_, fun j x hx => ?_⟩) trivial (fun _ _ _ h' => by cases h')
      · have := hv.1; simp at this; show 0 + cs.length ≤ ys.size; omega
      · have hlt : j < ys.size := by
          have := (List.getElem?_eq_some_iff.1 hx).1
          have hl := hv.1; simp at hl; omega
        exact ⟨ys[j], by show ys[0 + j]? = _; simp [hlt], (hv.2 j x ys[j] hx (by simp [hlt])).mono (Store.le_refl σ) hle⟩
  · simp [Tree.get] at h

/-! ### stores -/
theorem run_storeVar {t : TypeId} {m : Nat} {ad : Addr} {v : Value} {c : Array Value} (hm : szOf P t = some m) (hs : ad.spot = none) (hl : v.cells.size = m)
    (ho : ∀ y ∈ v.cells.toList, y.oneCell' = true) (hrow : World.row w ad.block c) (hb : ad.off + m ≤ c.size) :
    (Instr.storeAt t (.pointer (some ad)) v).run P w = .ok () (putRow w ad.block (splice c ad.off v.cells.toList)) := by
  unfold Instr.storeAt storeVar
  simp only [Sem.run_bind, Instr.sureAddr, Sem.run_pure, Result.andThen_ok, run_sizeOf hm, hl]
  simp only [ne_eq, not_true, if_false]
  have := run_storeCells (P := P) hs v.cells.toList ho 0 w c hrow (by simp [hl]; omega)
  simpa using this

theorem row_put {b : Nat} {c c' : Array Value} (h : World.row w b c) (hs : c'.size = c.size) : World.row (putRow w b c') b c' := by
  obtain ⟨T, fr, h1, h2⟩ := h
  exact ⟨T, fr, putRow_heap h1, fun o ho => h2 o (by omega)⟩

theorem splice3 {α : Type} {l vs : List α} {o k : Nat} (h : o + vs.length ≤ l.length) :
    (l.take o ++ vs ++ l.drop (o + vs.length))[k]? = if o ≤ k ∧ k < o + vs.length then vs[k - o]? else l[k]? := by
  by_cases h1 : k < o
  · rw [if_neg (by omega), List.append_assoc, List.getElem?_append_left (by simp; omega)]
    simp [List.getElem?_take, h1]
  · by_cases h2 : k < o + vs.length
    · rw [if_pos ⟨by omega, h2⟩, List.getElem?_append_left (by simp; omega), List.getElem?_append_right (by simp; omega)]
      congr 1; simp; omega
    · rw [if_neg (by omega), List.getElem?_append_right (by simp; omega)]
      simp only [List.getElem?_drop, List.length_append, List.length_take]
      congr 1; omega

theorem store_ok {t : TypeId} {p x : AV} {vp vx : Value} {u : Nat × Option Blk} (h : storeE P get t p x = some u) (hp : V σ φ p vp) (hx : V σ φ x vx) (hR : R κ σ φ get w) :
    ∃ w', (Instr.storeAt t vp vx).run P w = .ok () w' ∧ R κ σ φ (updG get u.1 u.2) w' := by
  unfold storeE at h
  split at h
  · rename_i m vs hm hcs
    have hv := cellsOf_ok hcs hx
    split at h
    · rename_i hlen
      simp only [Bool.and_eq_true, decide_eq_true_eq] at hlen
      obtain ⟨hlen, hone⟩ := hlen
      have hsz : vx.cells.size = m := by have := hv.1; simp at this; omega
      have ho : ∀ y ∈ vx.cells.toList, y.oneCell' = true := by
        intro y hy
        obtain ⟨j, hj⟩ := List.mem_iff_getElem?.1 hy
        have hlt : j < vs.length := by have := (List.getElem?_eq_some_iff.1 hj).1; have := hv.1; omega
        exact cellOk_one (all_get hone (by simp [hlt] : vs[j]? = some vs[j])) (hv.2 j _ y (by simp [hlt]) hj)
      split at h
      · rename_i i o
        split at h
        · rename_i cs hg
          split at h
          · rename_i hb
            simp only [decide_eq_true_eq] at hb
            simp only [Option.some.injEq] at h
            subst h
            cases hp with
            | base h0 => cases h0
            | @ptr _ _ L hL hr =>
              obtain ⟨c, hrow, hcs', hbd, hc⟩ := hR.obj i _ L hg hL hr
              have hst := run_storeVar (P := P) (w := w) (ad := ⟨L.b, L.base + o, none⟩) hm rfl hsz ho hrow (by show L.base + o + m ≤ c.size; omega)
              refine ⟨_, hst, hR.write hL hr (by simp [hg]) (fun b' hb' => putRow_other hb') putRow_size rfl rfl rfl ?_ (fun blk hblk => by simp only [Option.some.injEq] at hblk; subst hblk; trivial) (fun _ _ _ h' => by cases h')⟩
              intro blk hblk
              simp only [Option.some.injEq] at hblk
              subst hblk
              refine ⟨splice c (L.base + o) vx.cells.toList, row_put hrow (splice_size _ _ _), by rw [splice_size]; exact hcs', ?_, fun j y hy => ?_⟩
              · rw [splice_size]; simp; omega
              · rw [← hlen] at hb hy
                rw [splice3 hb] at hy
                rw [splice_get _ _ _ _ (by simp [hsz]; omega)]
                split at hy
                · rename_i hin
                  have hlt : j - o < vx.cells.toList.length := by simp [hsz]; omega
                  refine ⟨vx.cells.toList[j - o], ?_, hv.2 (j - o) y _ hy (by simp [hlt])⟩
                  rw [if_pos (by simp [hsz]; omega), show L.base + j - (L.base + o) = j - o by omega]
                  simp [hlt]
                · rename_i hout
                  rw [if_neg (by simp [hsz]; omega)]
                  exact hc j y hy
          · simp at h
        · simp at h
      · rename_i i e o
        split at h
        · rename_i sz n f hg
          split at h
          · rename_i hb
            simp only [Bool.and_eq_true, decide_eq_true_eq] at hb
            obtain ⟨hb, hfree⟩ := hb
            simp only [Option.some.injEq] at h
            subst h
            cases hp with
            | base h0 => cases h0
            | @eptr _ _ _ L hL hr he =>
              obtain ⟨e1, e2, c, hrow, hcs', hbd, hc⟩ := hR.obj i _ L hg hL hr
              subst e1; subst e2
              have hmul : ∀ k, k < L.n → k * L.sz + L.sz ≤ L.n * L.sz := fun k hk => by
                have : (k + 1) * L.sz ≤ L.n * L.sz := Nat.mul_le_mul_right _ hk
                rwa [Nat.succ_mul] at this
              have hst := run_storeVar (P := P) (w := w) (ad := ⟨L.b, L.base + e * L.sz + o, none⟩) hm rfl hsz ho hrow (by show L.base + e * L.sz + o + m ≤ c.size; have := hmul e he; omega)
              refine ⟨_, hst, hR.write hL hr (by simp [hg]) (fun b' hb' => putRow_other hb') putRow_size rfl rfl rfl ?_ (fun blk hblk => by
                simp only [Option.some.injEq] at hblk; subst hblk
                intro k
                have hw := hR.wf i _ hg
                have hspl : ((f e).take o ++ vs ++ (f e).drop (o + m)).length = L.sz := by have := hw e; simp [this]; omega
                rw [mixL_len (by rw [hspl, hw k]), hspl]) (fun _ _ _ h' => by cases h'; rfl)⟩
              intro blk hblk
              simp only [Option.some.injEq] at hblk
              subst hblk
              refine ⟨rfl, rfl, splice c (L.base + e * L.sz + o) vx.cells.toList, row_put hrow (splice_size _ _ _), by rw [splice_size]; exact hcs', by rw [splice_size]; exact hbd, fun k hk => ?_⟩
              have hle := hc e he
              have hlk := hc k hk
              have hspl : ((f e).take o ++ vs ++ (f e).drop (o + m)).length = L.sz := by simp [hle.1]; omega
              refine ⟨by rw [mixL_len (by rw [hspl, hlk.1]), hspl], fun j y hy => ?_⟩
              obtain ⟨a, b, ha, hb', rfl⟩ := mixL_get hy
              have hj : j < L.sz := by have := (List.getElem?_eq_some_iff.1 hb').1; omega
              rw [splice_get _ _ _ _ (by simp [hsz]; have := hmul e he; omega)]
              have hlenv : vx.cells.toList.length = m := by simp [hsz]
              rw [hlenv]
              by_cases hke : k = e
              · subst hke
                rw [← hlen] at ha
                rw [splice3 (by rw [hle.1]; omega)] at ha
                by_cases hin : o ≤ j ∧ j < o + m
                · rw [if_pos (by omega)] at ha
                  rw [if_pos (by omega), show L.base + k * L.sz + j - (L.base + k * L.sz + o) = j - o by omega]
                  have hlt : j - o < vx.cells.toList.length := by omega
                  have hva := hv.2 (j - o) a _ ha (by simp [hlt] : vx.cells.toList[j - o]? = some vx.cells.toList[j - o])
                  refine ⟨vx.cells.toList[j - o], by simp [hlt], ho _ (by simp), mix_ok0 ?_⟩
                  rw [Nat.beq_refl]
                  exact hva.free (all_get hfree ha)
                · rw [if_neg (by omega)] at ha
                  rw [if_neg (by omega)]
                  obtain ⟨y', hy', hy1, hv'⟩ := hle.2 j a ha
                  refine ⟨y', hy', hy1, mix_ok0 ?_⟩
                  rw [Nat.beq_refl]; exact hv'
              · have hne : Nat.beq k e = false := by
                  cases hb : Nat.beq k e with
                  | false => rfl
                  | true => exact absurd (Nat.eq_of_beq_eq_true hb) hke
                have hout : ¬ (L.base + e * L.sz + o ≤ L.base + k * L.sz + j ∧ L.base + k * L.sz + j < L.base + e * L.sz + o + m) := by
                  rcases Nat.lt_or_gt_of_ne hke with hlt | hgt
                  · have : k * L.sz + L.sz ≤ e * L.sz := by
                      have : (k + 1) * L.sz ≤ e * L.sz := Nat.mul_le_mul_right _ hlt
                      rwa [Nat.succ_mul] at this
                    omega
                  · have : e * L.sz + L.sz ≤ k * L.sz := by
                      have : (e + 1) * L.sz ≤ k * L.sz := Nat.mul_le_mul_right _ hgt
                      rwa [Nat.succ_mul] at this
                    omega
                rw [if_neg hout]
                obtain ⟨y', hy', hy1, hv'⟩ := hlk.2 j b hb'
                refine ⟨y', hy', hy1, mix_ok0 ?_⟩
                rw [hne]; exact hv'
          · simp at h
        · simp at h
      · rename_i i
        split at h
        · rename_i sz n f hg
          split at h
          · rename_i hb
            simp only [Bool.and_eq_true, decide_eq_true_eq] at hb
            obtain ⟨⟨hb, hfree⟩, hzl⟩ := hb
            simp only [Option.some.injEq] at h
            subst h
            cases hp with
            | base h0 => cases h0
            | @ap _ L hL hr =>
              obtain ⟨e1, e2, c, hrow, hcs', hbd, hc⟩ := hR.obj i _ L hg hL hr
              subst e1; subst e2
              have hst := run_storeVar (P := P) (w := w) (ad := ⟨L.b, L.base, none⟩) hm rfl hsz ho hrow (by show L.base + m ≤ c.size; omega)
              refine ⟨_, hst, hR.write hL hr (by simp [hg]) (fun b' hb' => putRow_other hb') putRow_size rfl rfl rfl ?_ (fun blk hblk => by
                simp only [Option.some.injEq] at hblk; subst hblk
                exact fun e => chain_len _ (chunks_len (by omega)) hzl) (fun _ _ _ h' => by cases h'; rfl)⟩
              intro blk hblk
              simp only [Option.some.injEq] at hblk
              subst hblk
              refine ⟨rfl, rfl, splice c L.base vx.cells.toList, row_put hrow (splice_size _ _ _), by rw [splice_size]; exact hcs', by rw [splice_size]; exact hbd, fun e he => ?_⟩
              have hlen' : vs.length = L.n * L.sz := by omega
              obtain ⟨h1, h2⟩ := chain_chunks (σ := σ) (φ := φ) hzl hlen' he
              refine ⟨h1, fun j y hy => ?_⟩
              obtain ⟨d, hd, hdv⟩ := h2 j y hy
              have hlt : e * L.sz + j < vx.cells.toList.length := by
                have := (List.getElem?_eq_some_iff.1 hd).1
                rw [← hv.1]; exact this
              have hvd := hv.2 (e * L.sz + j) d _ hd (by simp [hlt] : vx.cells.toList[e * L.sz + j]? = some vx.cells.toList[e * L.sz + j])
              rw [splice_get _ _ _ _ (by simp [hsz]; omega), if_pos (by omega)]
              refine ⟨vx.cells.toList[e * L.sz + j], ?_, ho _ (by simp), (hdv _).1 (hvd.free (all_get hfree hd))⟩
              rw [show L.base + e * L.sz + j - L.base = e * L.sz + j by omega]
              simp [hlt]
          · simp at h
        · simp at h
      · simp at h
    · simp at h
  · simp at h
end
end Go.Eng
