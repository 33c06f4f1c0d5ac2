/- An abstract evaluator of the model's code, part G: reads, places, parts. -/
import Derived.Test.YtnpfcaecaflfbaaDoorEngF
namespace Go.Eng
open Go
set_option linter.unusedSimpArgs false
set_option linter.unusedVariables false

section
variable {P : Program} {κ : Ctx} {σ : Store} {φ : Places} {get : Get} {w : World} {out : OpOut}

theorem take_get {α : Type} {l : List α} {n j : Nat} {x : α} (h : (l.take n)[j]? = some x) : j < n ∧ l[j]? = some x := by
  rw [List.getElem?_take] at h
  split at h
  · exact ⟨‹_›, h⟩
  · simp at h

theorem cellsAt_ok {m : Nat} {p : AV} {cs : List AV} {vp : Value} (h : cellsAt get m p = some cs) (hp : V σ φ p vp) (hR : R κ σ φ get w) :
    ∃ ad ys, vp = .pointer (some ad) ∧ ys.length = m ∧ (∀ (j : Nat) (y : Value), ys[j]? = some y → w.cell? (ad.add j) = some y) ∧ VL σ φ cs ys := by
  unfold cellsAt at h
  split at h
  · rename_i i o
    split at h
    · rename_i cs0 hg
      split at h
      · rename_i hlen
        simp only [decide_eq_true_eq] at hlen
        simp only [Option.some.injEq] at h
        subst h
        cases hp with
        | base h0 => cases h0
        | @ptr _ _ L hL hv =>
          obtain ⟨c, hrow, hcs, hb, hc⟩ := hR.obj i _ L hg hL hv
          refine ⟨_, (c.toList.drop (L.base + o)).take m, rfl, by simp; omega, fun j y hy => ?_, ?_, fun j x y hx hy => ?_⟩
          · obtain ⟨hj, hy⟩ := take_get hy
            rw [Addr.add_none rfl, hrow.cell]
            simpa using hy
          · simp; omega
          · obtain ⟨hj, hx⟩ := take_get hx
            obtain ⟨_, hy⟩ := take_get hy
            have hx' : cs0[o + j]? = some x := by simpa using hx
            obtain ⟨y', hy', hv⟩ := hc _ _ hx'
            have : y' = y := by
              have e : c[L.base + o + j]? = some y := by simpa using hy
              rw [show L.base + (o + j) = L.base + o + j by omega] at hy'
              rw [e] at hy'; exact (Option.some.inj hy').symm
            subst this; exact hv
      · simp at h
    · simp at h
  · rename_i i e o
    split at h
    · rename_i sz n f hg
      split at h
      · rename_i hlen
        simp only [decide_eq_true_eq] at hlen
        simp only [Option.some.injEq] at h
        subst h
        cases hp with
        | base h0 => cases h0
        | @eptr _ _ _ L hL hv he =>
          obtain ⟨e1, e2, c, hrow, hcs, hb, hc⟩ := hR.obj i _ L hg hL hv
          subst e1; subst e2
          obtain ⟨hl, hc⟩ := hc e he
          have hbd : L.base + e * L.sz + o + m ≤ c.size := by
            have : (e + 1) * L.sz ≤ L.n * L.sz := Nat.mul_le_mul_right _ he
            rw [Nat.succ_mul] at this; omega
          refine ⟨_, (c.toList.drop (L.base + e * L.sz + o)).take m, rfl, by simp; omega, fun j y hy => ?_, ?_, fun j x y hx hy => ?_⟩
          · obtain ⟨hj, hy⟩ := take_get hy
            rw [Addr.add_none rfl, hrow.cell]
            simpa using hy
          · simp; omega
          · obtain ⟨hj, hx⟩ := take_get hx
            obtain ⟨_, hy⟩ := take_get hy
            have hx' : (f e)[o + j]? = some x := by simpa using hx
            obtain ⟨y', hy', _, hv⟩ := hc _ _ hx'
            have : y' = y := by
              have e : c[L.base + e * L.sz + o + j]? = some y := by simpa using hy
              rw [← Nat.add_assoc] at hy'
              rw [e] at hy'; exact (Option.some.inj hy').symm
            subst this; exact .base hv
      · simp at h
    · simp at h
  · rename_i cs0
    split at h
    · rename_i hlen
      simp only [decide_eq_true_eq] at hlen
      simp only [Option.some.injEq] at h
      subst h
      cases hp with
      | base h0 =>
        cases h0 with
        | pp _ ad ys hs hm hv =>
          refine ⟨ad, (List.range m).map ys, rfl, by simp, fun j y hy => ?_, by simp; omega, fun j x y hx hy => ?_⟩
          · by_cases hj : j < m
            · simp [List.getElem?_range hj] at hy; subst hy
              rw [Addr.add_none hs]
              have : j < cs0.length := by omega
              exact hR.cell _ _ _ (hm j cs0[j] (by simp [this]))
            · simp [Nat.le_of_not_lt hj] at hy
          · obtain ⟨hj, hx⟩ := take_get hx
            simp [List.getElem?_range hj] at hy; subst hy
            exact .base (hv j x hx)
    · simp at h
  · simp at h

theorem loadE_ok {t : TypeId} {p x : AV} {vp : Value} (h : loadE P get t p = some x) (hp : V σ φ p vp) (hR : R κ σ φ get w) :
    ∃ v, (Instr.loadAt t vp).run P w = .ok v w ∧ V σ φ x v := by
  unfold loadE at h
  split at h
  · rename_i m a hm ha
    split at h
    · rename_i hcond
      cases hcs : cellsAt get m p with
      | none => simp [hcs] at h
      | some cs =>
        rw [hcs] at h
        simp only [Option.bind_some] at h
        obtain ⟨ad, ys, rfl, hl, hcell, hv⟩ := cellsAt_ok hcs hp hR
        have hld := run_loadCells (P := P) ys hcell
        rw [hl] at hld
        unfold Instr.loadAt loadVar
        simp only [Sem.run_bind, Instr.sureAddr, Sem.run_pure, Result.andThen_ok, run_isAgg ha]
        cases a with
        | true =>
          simp only [if_true, Sem.run_bind, run_sizeOf hm, Result.andThen_ok, hld, Sem.run_pure]
          simp only [wrapUp, Option.some.injEq] at h
          subst h
          exact ⟨_, rfl, .agg (by simpa using hv.1) fun j c y hc hy => hv.2 j c y hc (by simpa using hy)⟩
        | false =>
          simp only [Bool.false_or, beq_iff_eq] at hcond
          subst hcond
          simp only [Bool.false_eq_true, if_false]
          obtain ⟨y, rfl⟩ : ∃ y, ys = [y] := by
            match ys, hl with
            | [y], _ => exact ⟨y, rfl⟩
          have h0 := hcell 0 y rfl
          have e0 : ad.add 0 = ad := by simp [Addr.add]
          rw [e0] at h0
          simp only [wrapUp] at h
          split at h
          · rename_i c
            simp only [Option.some.injEq] at h; subst h
            exact ⟨y, by rw [run_load, h0], hv.2 0 _ y rfl rfl⟩
          · simp at h
    · simp at h
  · simp at h

/-! ### parts -/
theorem partE_ok {t : TypeId} {cs : List AV} {off : Nat} {x : AV} {ys : Array Value} (h : partE P t cs off = some x) (hl : cs.length = ys.size)
    (hv : ∀ (j : Nat) (c : AV) (z : Value), cs[j]? = some c → ys[j]? = some z → V σ φ c z) : ∃ v, (part t ys off).run P w = .ok v w ∧ V σ φ x v := by
  unfold partE at h
  split at h
  · rename_i m hm ha
    split at h
    · rename_i hlen
      simp only [decide_eq_true_eq] at hlen
      simp only [Option.some.injEq] at h; subst h
      unfold part
      simp only [Sem.run_bind, run_isAgg ha, run_sizeOf hm, Result.andThen_ok, if_true, Sem.run_pure]
      refine ⟨_, rfl, .agg (by simp; omega) fun j c y hc hy => ?_⟩
      obtain ⟨hj, hc⟩ := take_get hc
      have hy' : ys[off + j]? = some y := by
        rw [Array.getElem?_extract] at hy
        split at hy
        · exact hy
        · simp at hy
      exact hv (off + j) c y (by simpa using hc) hy'
    · simp at h
  · rename_i m hm ha
    unfold part
    simp only [Sem.run_bind, run_isAgg ha, Result.andThen_ok, Bool.false_eq_true, if_false]
    have hlt : off < ys.size := by
      rw [← hl]; exact (List.getElem?_eq_some_iff.1 h).1
    rw [Array.getElem?_eq_getElem hlt]
    exact ⟨ys[off], rfl, hv off x ys[off] h (by simp [hlt])⟩
  · simp at h

theorem field_ok {s : TypeId} {f : Nat} {fd : Field} {cs : List AV} {x : AV} {vx : Value} (hf : fieldOf P s f = some fd) (h : partE P fd.type cs fd.offset = some x)
    (hx : V σ φ (.agg cs) vx) : ∃ v, (Instr.field s vx f).run P w = .ok v w ∧ V σ φ x v := by
  obtain ⟨ys, rfl, hl, hv⟩ := hx.agg_inv
  unfold fieldOf at hf
  split at hf
  · rename_i fields hu
    obtain ⟨v, h1, h2⟩ := partE_ok (P := P) (w := w) h hl hv
    refine ⟨v, ?_, h2⟩
    unfold Instr.field
    simp only [Sem.run_bind, run_underlying hu, Result.andThen_ok, hf, asAgg, Sem.run_pure]
    exact h1
  · simp at hf

theorem moveP_ok {off : Nat} {p q : AV} {vp : Value} (h : moveP off p = some q) (hp : V σ φ p vp) : ∃ ad, vp = .pointer (some ad) ∧ V σ φ q (.pointer (some (ad.add off))) := by
  unfold moveP at h
  split at h
  · simp at h; subst h
    cases hp with
    | base h0 => cases h0
    | ptr hL hv => exact ⟨_, rfl, by rw [Addr.add_none rfl]; simp only [Nat.add_assoc]; exact .ptr hL hv⟩
  · simp at h; subst h
    cases hp with
    | base h0 => cases h0
    | eptr hL hv he => exact ⟨_, rfl, by rw [Addr.add_none rfl]; simp only [Nat.add_assoc]; rw [← Nat.add_assoc]; exact .eptr hL hv he⟩
  · simp at h; subst h
    cases hp with
    | base h0 =>
      cases h0 with
      | pp _ ad ys hs hm hv =>
        refine ⟨ad, rfl, .base (.pp _ _ (fun j => ys (off + j)) (by rw [Addr.add_none hs]) (fun j c hc => ?_) (fun j c hc => hv _ _ (by simpa using hc)))⟩
        rw [Addr.add_none hs]
        have := hm (off + j) c (by simpa using hc)
        rw [← Nat.add_assoc] at this
        exact this
  · simp at h


/-- the block behind a known pointer is a row or was, and is no view -/
def seesRow (w : World) (b : Nat) : Prop := ∃ c T fr, w.heap[b]? = some (.cells c T fr)
end
end Go.Eng
