/- An abstract evaluator of the model's code, part H: values that are one or the other; indexes. -/
import Derived.Test.YtnpfcaecaflfbaaDoorEngG
namespace Go.Eng
open Go
set_option linter.unusedSimpArgs false
set_option linter.unusedVariables false

section
variable {P : Program} {κ : Ctx} {σ : Store} {φ : Places} {get : Get} {w : World} {out : OpOut}

theorem mixL_get : ∀ {c : Bool} {a b : List AV} {j : Nat} {z : AV}, (mixL c a b)[j]? = some z → ∃ x y, a[j]? = some x ∧ b[j]? = some y ∧ z = mixAV c x y := by
  intro c a
  induction a with
  | nil => intro b j z h; simp [mixL] at h
  | cons x xs ih =>
    intro b j z h
    cases b with
    | nil => simp [mixL] at h
    | cons y ys =>
      simp only [mixL] at h
      cases j with
      | zero => simp at h; exact ⟨x, y, by simp, by simp, h.symm⟩
      | succ j => simpa using ih (by simpa using h)
theorem mixL_len : ∀ {c : Bool} {a b : List AV}, a.length = b.length → (mixL c a b).length = a.length := by
  intro c a
  induction a with
  | nil => intro b h; simp [mixL]
  | cons x xs ih =>
    intro b h
    cases b with
    | nil => simp at h
    | cons y ys => simp only [mixL, List.length_cons]; rw [ih (by simpa using h)]

theorem mixV_ok {c : Bool} {x y : Value} : V0 σ (mixV c x y) (bif c then x else y) := by
  unfold mixV
  split
  · split
    · rename_i e; subst e; cases c <;> exact .v _
    · exact .any _
  · cases c <;> exact .sb _
  · cases c <;> exact .v _
  all_goals cases c <;> first | exact .v _ | exact .any _

theorem mix_true {x : AV} {v : Value} (h : V σ φ x v) : ∀ (x' : AV), V σ φ (mixAV true x x') v := by
  induction h with
  | @base x v h =>
    intro x'
    cases h with
    | any => simp only [mixAV]; exact V_any _
    | v x =>
      cases x' <;> simp only [mixAV] <;> try exact V_any _
      · exact .base (by simpa using mixV_ok (σ := σ) (c := true))
      · split
        · exact V_sb _
        · exact V_any _
    | sb b =>
      cases x' <;> simp only [mixAV] <;> try exact V_any _
      all_goals first
        | exact V_sb _
        | (split <;> first | exact V_sb _ | exact V_any _)
    | sl sz n f ad cap ys hs hn hl hm ho hv =>
      cases x' <;> simp only [mixAV] <;> try exact V_any _
      split
      · exact .base (.sl sz n f ad cap ys hs hn hl hm ho hv)
      · exact V_any _
    | slnil sz n f A cap hl hn ha =>
      cases x' <;> simp only [mixAV] <;> try exact V_any _
      split
      · exact .base (.slnil sz n f A cap hl hn ha)
      · exact V_any _
    | pp => simp only [mixAV]; exact V_any _
    | pa => simp only [mixAV]; exact V_any _
  | @agg cs ys hl _ ih =>
    intro x'
    cases x' <;> simp only [mixAV] <;> try exact V_any _
    split
    · rename_i e
      refine .agg (by rw [mixL_len e]; exact hl) fun j c y hc hy => ?_
      obtain ⟨a, b, ha, hb, rfl⟩ := mixL_get hc
      exact ih j a y ha hy b
    · exact V_any _
  | @tup cs ys hl _ ih =>
    intro x'
    cases x' <;> simp only [mixAV] <;> try exact V_any _
    split
    · rename_i e
      refine .tup (by rw [mixL_len e]; exact hl) fun j c y hc hy => ?_
      obtain ⟨a, b, ha, hb, rfl⟩ := mixL_get hc
      exact ih j a y ha hy b
    · exact V_any _
  | ptr h hr =>
    intro x'
    cases x' <;> simp only [mixAV] <;> try exact V_any _
    split
    · exact .ptr h hr
    · exact V_any _
  | map h hr =>
    intro x'
    cases x' <;> simp only [mixAV] <;> try exact V_any _
    split
    · exact .map h hr
    · exact V_any _
  | hs h hr hn he hx hc =>
    intro x'
    cases x' <;> simp only [mixAV] <;> try exact V_any _
    split
    · exact .hs h hr hn he hx hc
    · exact V_any _
  | hsnil A h he hn =>
    intro x'
    cases x' <;> simp only [mixAV] <;> try exact V_any _
    split
    · exact .hsnil A h he hn
    · exact V_any _
  | ap | eptr | fn | its => intro x'; simp only [mixAV]; exact V_any _

theorem mix_false {x' : AV} {v : Value} (h : V σ φ x' v) : ∀ (x : AV), V σ φ (mixAV false x x') v := by
  induction h with
  | @base x' v h =>
    intro x
    cases h with
    | any => cases x <;> simp only [mixAV] <;> exact V_any _
    | v y =>
      cases x <;> simp only [mixAV] <;> try exact V_any _
      · exact .base (by simpa using mixV_ok (σ := σ) (c := false))
      · split <;> rename_i e
        · cases e
        · cases e; exact V_sb _
        · exact V_any _
    | sb b =>
      cases x <;> simp only [mixAV] <;> try exact V_any _
      · split <;> rename_i e
        · exact V_sb _
        · exact V_any _
      · exact V_sb _
    | sl sz n f ad cap ys hs hn hl hm ho hv =>
      cases x <;> simp only [mixAV] <;> try exact V_any _
      split
      · rename_i e; subst e; exact .base (.sl _ n f ad cap ys hs hn hl hm ho hv)
      · exact V_any _
    | slnil sz n f A cap hl hn ha =>
      cases x <;> simp only [mixAV] <;> try exact V_any _
      split
      · rename_i e; subst e; exact .base (.slnil _ n f A cap hl hn ha)
      · exact V_any _
    | pp => cases x <;> simp only [mixAV] <;> exact V_any _
    | pa => cases x <;> simp only [mixAV] <;> exact V_any _
  | @agg cs ys hl _ ih =>
    intro x
    cases x <;> simp only [mixAV] <;> try exact V_any _
    split
    · rename_i e
      refine .agg (by rw [mixL_len e, e]; exact hl) fun j c y hc hy => ?_
      obtain ⟨a, b, ha, hb, rfl⟩ := mixL_get hc
      exact ih j b y hb hy a
    · exact V_any _
  | @tup cs ys hl _ ih =>
    intro x
    cases x <;> simp only [mixAV] <;> try exact V_any _
    split
    · rename_i e
      refine .tup (by rw [mixL_len e, e]; exact hl) fun j c y hc hy => ?_
      obtain ⟨a, b, ha, hb, rfl⟩ := mixL_get hc
      exact ih j b y hb hy a
    · exact V_any _
  | ptr h hr =>
    intro x
    cases x <;> simp only [mixAV] <;> try exact V_any _
    split
    · rename_i e; rw [e.1, e.2]; exact .ptr h hr
    · exact V_any _
  | map h hr =>
    intro x
    cases x <;> simp only [mixAV] <;> try exact V_any _
    split
    · rename_i e; rw [e]; exact .map h hr
    · exact V_any _
  | hs h hr hn he hx hc =>
    intro x
    cases x <;> simp only [mixAV] <;> try exact V_any _
    split
    · rename_i e; rw [e]; exact .hs h hr hn he hx hc
    · exact V_any _
  | hsnil A h he hn =>
    intro x
    cases x <;> simp only [mixAV] <;> try exact V_any _
    split
    · rename_i e; rw [e]; exact .hsnil A h he hn
    · exact V_any _
  | ap | eptr | fn | its => intro x; cases x <;> simp only [mixAV] <;> exact V_any _

theorem mix_ok {c : Bool} {x x' : AV} {v : Value} (h : V σ φ (bif c then x else x') v) : V σ φ (mixAV c x x') v := by
  cases c
  · exact mix_false h x
  · exact mix_true h x'
theorem mixV_free {c : Bool} {x y : Value} : (mixV c x y).free = true := by
  unfold mixV
  split <;> try rfl
  split <;> rfl
theorem mix_free {c : Bool} {x x' : AV} (h : (bif c then x else x').free = true) : (mixAV c x x').free = true := by
  cases x <;> cases x' <;> simp only [mixAV] <;> try rfl
  all_goals first
    | exact mixV_free
    | (split <;> rfl)
    | (cases c <;> simp [AV.free] at h)
theorem mix_ok0 {c : Bool} {x x' : AV} {v : Value} (h : V0 σ (bif c then x else x') v) : V0 σ (mixAV c x x') v := by
  have hf : (bif c then x else x').free = true := by
    cases hx : (bif c then x else x') <;> rw [hx] at h <;> cases h <;> rfl
  exact (mix_ok (φ := fun _ => none) (.base h)).free (mix_free hf)

theorem V0.free {x : AV} {v : Value} (h : V0 σ x v) : x.free = true := by cases h <;> rfl

theorem chain_len : ∀ (xs : List (List AV)) {z : List AV} {i k : Nat} {sz : Nat}, (∀ x ∈ xs, x.length = sz) → z.length = sz → (chain z i xs k).length = sz := by
  intro xs
  induction xs with
  | nil => intro z i k sz _ hz; simpa [chain] using hz
  | cons x xs ih =>
    intro z i k sz hxs hz
    simp only [chain]
    have h1 := hxs x (by simp)
    rw [mixL_len (by rw [h1, ih (fun y hy => hxs y (by simp [hy])) hz]), h1]
/-- the cells of one of several elements -/
theorem chain_ok : ∀ {xs : List (List AV)} {z : List AV} {i k : Nat} {sz : Nat} {l : List AV}, (∀ x ∈ xs, x.length = sz) → z.length = sz → i ≤ k → xs[k - i]? = some l →
    (chain z i xs k).length = sz ∧ ∀ (j : Nat) (c : AV), (chain z i xs k)[j]? = some c → ∃ d, l[j]? = some d ∧ ∀ v, (V0 σ d v → V0 σ c v) ∧ (V σ φ d v → V σ φ c v) := by
  intro xs
  induction xs with
  | nil => intro z i k sz l _ _ _ h; simp at h
  | cons x xs ih =>
    intro z i k sz l hxs hz hik h
    refine ⟨chain_len _ hxs hz, fun j c hc => ?_⟩
    simp only [chain] at hc
    obtain ⟨a, b, ha, hb, rfl⟩ := mixL_get hc
    by_cases e : k = i
    · subst e
      simp at h; subst h
      refine ⟨a, ha, fun v => ⟨fun hv => mix_ok0 ?_, fun hv => mix_ok ?_⟩⟩ <;> simpa using hv
    · have hne : Nat.beq k i = false := by cases hb : Nat.beq k i with
        | false => rfl
        | true => exact absurd (Nat.eq_of_beq_eq_true hb) e
      have h' : xs[k - (i + 1)]? = some l := by
        rw [show k - i = (k - (i + 1)) + 1 by omega] at h; simpa using h
      obtain ⟨_, h2⟩ := ih (fun y hy => hxs y (by simp [hy])) hz (by omega) h'
      obtain ⟨d, hd, hv⟩ := h2 j b hb
      refine ⟨d, hd, fun v => ⟨fun h => mix_ok0 ?_, fun h => mix_ok ?_⟩⟩ <;> rw [hne]
      · exact (hv v).1 h
      · exact (hv v).2 h
theorem chunks_get : ∀ {n : Nat} {cs : List AV} {sz e : Nat}, e < n → (chunks sz n cs)[e]? = some ((cs.drop (e * sz)).take sz) := by
  intro n
  induction n with
  | zero => intro cs sz e h; omega
  | succ n ih =>
    intro cs sz e h
    cases e with
    | zero => simp [chunks]
    | succ e =>
      simp only [chunks, List.getElem?_cons_succ]
      rw [ih (by omega), List.drop_drop, Nat.succ_mul]
      congr 3; omega
theorem chunks_len : ∀ {n : Nat} {cs : List AV} {sz : Nat}, cs.length = n * sz → ∀ x ∈ chunks sz n cs, x.length = sz := by
  intro n
  induction n with
  | zero => intro cs sz _ x hx; simp [chunks] at hx
  | succ n ih =>
    intro cs sz h x hx
    rw [Nat.succ_mul] at h
    simp only [chunks, List.mem_cons] at hx
    rcases hx with rfl | hx
    · simp; omega
    · exact ih (by simp; omega) x hx
/-- cells laid out as a row of literal elements -/
theorem chain_chunks {cs : List AV} {n sz : Nat} {z : List AV} (hz : z.length = sz) (hl : cs.length = n * sz) {e : Nat} (he : e < n) :
    (chain z 0 (chunks sz n cs) e).length = sz ∧ ∀ (j : Nat) (c : AV), (chain z 0 (chunks sz n cs) e)[j]? = some c →
      ∃ d, cs[e * sz + j]? = some d ∧ ∀ v, (V0 σ d v → V0 σ c v) ∧ (V σ φ d v → V σ φ c v) := by
  obtain ⟨h1, h2⟩ := chain_ok (σ := σ) (φ := φ) (k := e) (chunks_len hl) hz (Nat.zero_le _) (by simpa using chunks_get (cs := cs) (sz := sz) he)
  refine ⟨h1, fun j c hc => ?_⟩
  obtain ⟨d, hd, hv⟩ := h2 j c hc
  obtain ⟨_, hd⟩ := take_get hd
  exact ⟨d, by simpa using hd, hv⟩
end
end Go.Eng
