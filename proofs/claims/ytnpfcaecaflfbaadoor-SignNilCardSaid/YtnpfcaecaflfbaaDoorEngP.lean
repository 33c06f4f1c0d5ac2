/- An abstract evaluator of the model's code, part P: calls. -/
import Derived.Test.YtnpfcaecaflfbaaDoorEngO
namespace Go.Eng
open Go
set_option linter.unusedSimpArgs false
set_option linter.unusedVariables false

section
variable {P : Program} {Γ : Nat → AV} {κ : Ctx} {σ : Store} {φ : Places} {get : Get} {w : World} {nb : Nat}

theorem memN_iff {i : Nat} {l : List Nat} : memN i l = true ↔ i ∈ l := by
  induction l with
  | nil => simp [memN]
  | cons j l ih =>
    simp only [memN, Bool.or_eq_true, ih, List.mem_cons]
    constructor
    · rintro (h | h)
      · exact .inl (Nat.eq_of_beq_eq_true h)
      · exact .inr h
    · rintro (h | h)
      · exact .inl (by rw [h]; exact Nat.beq_refl j)
      · exact .inr h

/-- what 'reach' gives: no number twice, closed under what blocks lead to -/
theorem reach_ok : ∀ (n : Nat) (todo seen ids : List Nat), reach get n todo seen = some ids → seen.Nodup → (∀ i ∈ seen, (get i).isSome) →
    (∀ i ∈ seen, ∀ b, get i = some b → ∀ j ∈ blkIds b, j ∈ seen ∨ j ∈ todo) →
    ids.Nodup ∧ (∀ i ∈ seen, i ∈ ids) ∧ (∀ i ∈ todo, i ∈ ids) ∧ (∀ i ∈ ids, (get i).isSome) ∧ (∀ i ∈ ids, ∀ b, get i = some b → ∀ j ∈ blkIds b, j ∈ ids) := by
  intro n
  induction n with
  | zero =>
    intro todo seen ids h hn hg hc
    cases todo with
    | nil =>
      simp [reach] at h; subst h
      exact ⟨hn, fun i hi => hi, fun i hi => by simp at hi, hg, fun i hi b hb j hj => (hc i hi b hb j hj).elim id (fun h => by simp at h)⟩
    | cons i todo => simp [reach] at h
  | succ n ih =>
    intro todo seen ids h hn hg hc
    cases todo with
    | nil =>
      simp [reach] at h; subst h
      exact ⟨hn, fun i hi => hi, fun i hi => by simp at hi, hg, fun i hi b hb j hj => (hc i hi b hb j hj).elim id (fun h => by simp at h)⟩
    | cons i todo =>
      simp only [reach] at h
      split at h
      · rename_i hm
        have him := memN_iff.1 hm
        obtain ⟨h1, h2, h3, h4, h5⟩ := ih todo seen ids h hn hg (fun k hk b hb j hj => by
          rcases hc k hk b hb j hj with h | h
          · exact .inl h
          · rcases List.mem_cons.1 h with rfl | h
            · exact .inl him
            · exact .inr h)
        exact ⟨h1, h2, fun k hk => by
          rcases List.mem_cons.1 hk with rfl | hk
          · exact h2 _ him
          · exact h3 k hk, h4, h5⟩
      · rename_i hm
        have hni : i ∉ seen := fun hi => by rw [memN_iff.2 hi] at hm; simp at hm
        split at h
        · rename_i b hb
          obtain ⟨h1, h2, h3, h4, h5⟩ := ih (blkIds b ++ todo) (seen ++ [i]) ids h
            (List.nodup_append.2 ⟨hn, by simp, fun a ha b hb' => by simp at hb'; subst hb'; exact fun e => hni (e ▸ ha)⟩)
            (fun k hk => by
              rcases List.mem_append.1 hk with hk | hk
              · exact hg k hk
              · simp at hk; subst hk; simp [hb])
            (fun k hk b' hb' j hj => by
              rcases List.mem_append.1 hk with hk | hk
              · rcases hc k hk b' hb' j hj with h | h
                · exact .inl (by simp [h])
                · rcases List.mem_cons.1 h with rfl | h
                  · exact .inl (by simp)
                  · exact .inr (by simp [h])
              · simp at hk; subst hk
                rw [hb] at hb'; cases hb'
                exact .inr (by simp [hj]))
          exact ⟨h1, fun k hk => h2 k (by simp [hk]), fun k hk => by
            rcases List.mem_cons.1 hk with rfl | hk
            · exact h2 _ (by simp)
            · exact h3 k (by simp [hk]), h4, h5⟩
        · simp at h

theorem posIn_get {i : Nat} {ids : List Nat} (h : i ∈ ids) : ids[posIn i ids]? = some i := by
  induction ids with
  | nil => simp at h
  | cons j l ih =>
    simp only [posIn]
    split
    · rename_i hb; simp [Nat.eq_of_beq_eq_true hb]
    · rename_i hb
      have hne : i ≠ j := fun e => by rw [e, Nat.beq_refl] at hb; simp at hb
      rcases List.mem_cons.1 h with h | h
      · exact absurd h hne
      · simpa using ih h

theorem blocksAt_ok : ∀ {ids : List Nat} {bs : List Blk}, blocksAt get ids = some bs → bs.length = ids.length ∧ ∀ (k : Nat) (i : Nat), ids[k]? = some i → ∃ b, bs[k]? = some b ∧ get i = some b := by
  intro ids
  induction ids with
  | nil => intro bs h; simp [blocksAt] at h; subst h; exact ⟨rfl, fun k i h => by simp at h⟩
  | cons i ids ih =>
    intro bs h
    simp only [blocksAt] at h
    split at h
    · rename_i b bs' hb hbs
      simp at h; subst h
      obtain ⟨h1, h2⟩ := ih hbs
      refine ⟨by simp [h1], fun k j hk => ?_⟩
      cases k with
      | zero => simp at hk; subst hk; exact ⟨b, by simp, hb⟩
      | succ k => simpa using h2 k j (by simpa using hk)
    · simp at h

theorem getH_map {bs : List Blk} {k : Nat} : getH (bs.map some) k = bs[k]? := by
  unfold getH
  simp only [List.getElem?_map]
  cases bs[k]? <;> rfl

theorem idsL_mem : ∀ (cs : List AV) (j : Nat) (c : AV), cs[j]? = some c → ∀ i ∈ c.ids, i ∈ AV.idsL cs := by
  intro cs
  induction cs with
  | nil => intro j c h; simp at h
  | cons d ds ih =>
    intro j c h i hi
    simp only [AV.idsL, List.mem_append]
    cases j with
    | zero => simp at h; subst h; exact .inl hi
    | succ j => exact .inr (ih j c (by simpa using h) i hi)
theorem renL_get {r : Nat → Nat} : ∀ (cs : List AV) (j : Nat) (c : AV), (AV.renL r cs)[j]? = some c → ∃ d, cs[j]? = some d ∧ c = d.ren r := by
  intro cs
  induction cs with
  | nil => intro j c h; simp [AV.renL] at h
  | cons d ds ih =>
    intro j c h
    cases j with
    | zero => simp [AV.renL] at h; exact ⟨d, by simp, h.symm⟩
    | succ j => simpa using ih j c (by simpa [AV.renL] using h)
theorem renL_len {r : Nat → Nat} : ∀ (cs : List AV), (AV.renL r cs).length = cs.length := by
  intro cs; induction cs with
  | nil => rfl
  | cons d ds ih => simp [AV.renL, ih]

theorem VL.ren {φ' : Places} {r : Nat → Nat} {xs : List AV} {ys : List Value} (h : VL σ φ xs ys) (hr : ∀ i ∈ AV.idsL xs, ∀ L, φ i = some L → φ' (r i) = some L) : VL σ φ' (AV.renL r xs) ys :=
  ⟨by rw [renL_len]; exact h.1, fun j c y hc hy => by
    obtain ⟨d, hd, rfl⟩ := renL_get xs j c hc
    exact (h.2 j d y hd hy).ren fun i hi => hr i (idsL_mem xs j d hd i hi)⟩

theorem blkAt_ren {φ' : Places} {r : Nat → Nat} {b : Blk} {L : Lc} (h : blkAt σ φ w L b) (hr : ∀ i ∈ blkIds b, ∀ K, φ i = some K → φ' (r i) = some K) : blkAt σ φ' w L (blkRen r b) := by
  cases b with
  | row cs =>
    obtain ⟨c, h1, h2, h3, h4⟩ := h
    refine ⟨c, h1, h2, by rw [renL_len]; exact h3, fun j x hx => ?_⟩
    obtain ⟨d, hd, rfl⟩ := renL_get cs j x hx
    obtain ⟨y, hy, hv⟩ := h4 j d hd
    exact ⟨y, hy, hv.ren fun i hi => hr i (idsL_mem cs j d hd i hi)⟩
  | arr => exact h
  | mp => exact h
  | sit => exact h
theorem blkWf_ren {r : Nat → Nat} {b : Blk} (h : blkWf b) : blkWf (blkRen r b) := by cases b <;> exact h
theorem blkRen_arr {r : Nat → Nat} {b : Blk} {sz n : Nat} {f : Nat → List AV} (h : blkRen r b = .arr sz n f) : b = .arr sz n f := by cases b <;> simp [blkRen] at h ⊢; exact h

/-- the blocks of a call, seen by itself -/
theorem R.local (hR : R κ σ φ get w) {ids : List Nat} {bs : List Blk} (hn : ids.Nodup) (hb : blocksAt get ids = some bs)
    (hc : ∀ i ∈ ids, ∀ b, get i = some b → ∀ j ∈ blkIds b, j ∈ ids) :
    R ⟨w, σ, fun b => ∃ (k : Nat) (L : Lc), (ids[k]?.bind φ) = some L ∧ L.virt = false ∧ L.b = b⟩ σ (fun (k : Nat) => ids[k]?.bind φ) (getH ((bs.map (blkRen fun i => posIn i ids)).map some)) w := by
  obtain ⟨hl, hbs⟩ := blocksAt_ok hb
  have hphi : ∀ (k : Nat) (L : Lc), (ids[k]?.bind φ) = some L → ∃ i, ids[k]? = some i ∧ φ i = some L := by
    intro k L h
    cases hk : ids[k]? with
    | none => simp [hk] at h
    | some i => exact ⟨i, rfl, by simpa [hk] using h⟩
  have hget : ∀ (k i : Nat), ids[k]? = some i → ∃ b, get i = some b ∧ getH ((bs.map (blkRen fun i => posIn i ids)).map some) k = some (blkRen (fun i => posIn i ids) b) := by
    intro k i hk
    obtain ⟨b, h1, h2⟩ := hbs k i hk
    exact ⟨b, h2, by rw [getH_map]; simp [h1]⟩
  refine ⟨hR.cell, fun k L hk hv _ o => ?_, fun k blk L hg hk hv => ?_, fun k j Lk Lj hne _ _ pk pj vk vj => ?_, fun k L hk hv => ?_, rfl, rfl, rfl, Nat.le_refl _, fun _ _ _ => rfl, fun _ _ _ h => .inl h,
    fun k L hk hv => .inl ⟨k, L, hk, hv, rfl⟩, Store.le_refl σ, fun k b hg => ?_, fun k L sz n f hg hk => ?_⟩
  · obtain ⟨i, hi, hp⟩ := hphi k L hk
    obtain ⟨b, hgb, _⟩ := hget k i hi
    exact hR.apart i L hp hv (by simp [hgb]) o
  · obtain ⟨i, hi, hp⟩ := hphi k L hk
    obtain ⟨b, hgb, hg'⟩ := hget k i hi
    rw [hg'] at hg; cases hg
    refine blkAt_ren (hR.obj i b L hgb hp hv) fun j hj K hK => ?_
    have hj' := hc i (List.mem_of_getElem? hi) b hgb j hj
    simp [posIn_get hj', hK]
  · obtain ⟨i, hi, hp⟩ := hphi k Lk pk
    obtain ⟨i', hi', hp'⟩ := hphi j Lj pj
    obtain ⟨b, hgb, _⟩ := hget k i hi
    obtain ⟨b', hgb', _⟩ := hget j i' hi'
    refine hR.dis i i' Lk Lj (fun e => hne ?_) (by simp [hgb]) (by simp [hgb']) hp hp' vk vj
    subst e
    have h1 := (List.getElem?_eq_some_iff.1 hi)
    have h2 := (List.getElem?_eq_some_iff.1 hi')
    exact (List.getElem_inj hn).1 (h1.2.trans h2.2.symm)
  · obtain ⟨i, hi, hp⟩ := hphi k L hk
    exact hR.lt i L hp hv
  · rw [getH_map] at hg
    simp only [List.getElem?_map, Option.map_eq_some_iff] at hg
    obtain ⟨b0, hb0, rfl⟩ := hg
    have hlt : k < ids.length := by rw [← hl]; exact (List.getElem?_eq_some_iff.1 hb0).1
    obtain ⟨b1, h1, h2⟩ := hbs k ids[k] (by simp [hlt])
    rw [hb0] at h1; cases h1
    exact blkWf_ren (hR.wf _ _ h2)
  · obtain ⟨i, hi, hp⟩ := hphi k L hk
    obtain ⟨b, hgb, hg'⟩ := hget k i hi
    rw [hg'] at hg
    exact hR.len i L sz n f (by rw [hgb, blkRen_arr (Option.some.inj hg)]) hp

theorem newGs_get : ∀ (bs : List Blk) (get : Get) (nb j : Nat), newGs get nb bs j = if nb ≤ j ∧ j < nb + bs.length then bs[j - nb]? else get j := by
  intro bs
  induction bs with
  | nil => intro get nb j; simp [newGs]; intro h1 h2; omega
  | cons b bs ih =>
    intro get nb j
    simp only [newGs, List.length_cons]
    rw [ih]
    by_cases h : nb + 1 ≤ j ∧ j < nb + 1 + bs.length
    · rw [if_pos h, if_pos (by omega), show j - nb = (j - (nb + 1)) + 1 by omega]; simp
    · rw [if_neg h]
      by_cases e : j = nb
      · subst e; simp [updG]
      · rw [if_neg (by omega)]; simp [updG, e]

theorem updGs_get : ∀ (ids : List Nat) (us : List (Option (Option Blk))) (r : Nat → Nat) (get : Get) (j : Nat), ids.Nodup →
    updGs get (updsOf r ids us) j = (match (if j ∈ ids then us[posIn j ids]?.join else none) with
      | some x => x.map (blkRen r)
      | none => get j) := by
  intro ids
  induction ids with
  | nil => intro us r get j _; simp [updsOf, updGs]
  | cons i ids ih =>
    intro us r get j hn
    obtain ⟨hi, hn'⟩ := List.nodup_cons.1 hn
    cases us with
    | nil => simp [updsOf, updGs]
    | cons u us =>
      have step : ∀ g : Get, updGs g (updsOf r ids us) j = (match (if j ∈ ids then us[posIn j ids]?.join else none) with
          | some x => x.map (blkRen r)
          | none => g j) := fun g => ih us r g j hn'
      by_cases e : j = i
      · subst e
        have hp : posIn j (j :: ids) = 0 := by simp [posIn]
        cases u with
        | none => simp only [updsOf]; rw [step]; simp [hi, hp]
        | some x => simp only [updsOf, updGs]; rw [step]; simp [hi, hp, updG]
      · have hp : posIn j (i :: ids) = posIn j ids + 1 := by
          simp only [posIn]
          split
          · rename_i hb; exact absurd (Nat.eq_of_beq_eq_true hb) e
          · rfl
        cases u with
        | none => simp only [updsOf]; rw [step]; simp [e, hp]
        | some x => simp only [updsOf, updGs]; rw [step]; simp [e, hp, updG]

theorem outOf_get : ∀ (bs : List Blk) (us : List (Option (Option Blk))) (k : Nat), (outOf bs us)[k]? = (match bs[k]? with
    | some b => some (match us[k]?.join with | some x => x | none => some b)
    | none => none) := by
  intro bs
  induction bs with
  | nil => intro us k; simp [outOf]
  | cons b bs ih =>
    intro us k
    cases us with
    | nil =>
      simp only [outOf]
      cases k with
      | zero => simp
      | succ k => simp only [List.getElem?_cons_succ]; rw [ih]; simp
    | cons u us =>
      cases u with
      | none =>
        simp only [outOf]
        cases k with
        | zero => simp
        | succ k => simp only [List.getElem?_cons_succ]; rw [ih]
      | some x =>
        simp only [outOf]
        cases k with
        | zero => simp
        | succ k => simp only [List.getElem?_cons_succ]; rw [ih]
theorem outOf_len : ∀ (bs : List Blk) (us : List (Option (Option Blk))), (outOf bs us).length = bs.length := by
  intro bs
  induction bs with
  | nil => intro us; rfl
  | cons b bs ih =>
    intro us
    cases us with
    | nil => simp [outOf, ih]
    | cons u us => cases u <;> simp [outOf, ih]
end
end Go.Eng
