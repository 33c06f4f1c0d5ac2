/- An abstract evaluator of the model's code, part Tf: regions that draw their order. -/
import Derived.Test.YtnpfcaecaflfbaaDoorEngTe
namespace Go.Eng
open Go
set_option linter.unusedSimpArgs false
set_option linter.unusedVariables false
set_option linter.unnecessarySimpa false
section
variable {P : Program} {Γ : Nat → AV} {κ : Ctx} {m : Nat} {σ : Store} {φ : Places} {w : World} {ip : Bool} {T : List (CT P Γ)}
theorem anyF_ok {ops : Array Oper} {Q : Exit → Act → World → Prop} {S : Nat → St} {L : Nat → StW} {N : Nat} {σ0 : Store} {φ0 : Places} {a0 : Act} (hd : drawOk ops.toList = true) (hb : backOk 0 ops.toList = true)
    (hS : ∀ k o, ops[k]? = some o → (stepV T ip ops o (S k)).get = some (L k) ∧ (L k).s.fr = (S (k + 1)).fr ∧ (L k).s.H = (S (k + 1)).H) (hN : ∀ k, k ≤ ops.size → (S k).fr.length = N)
    (hcf : ∀ i j, i < j → j < ops.size → ((befores ops.toList []).getD j 0).testBit i = true ∨
      ((∀ b ∈ (L j).w, ∃ F, (L i).f = some F ∧ b ∉ F) ∧ (∀ b ∈ (L i).w, ∃ F, (L j).f = some F ∧ b ∉ F) ∧ ∀ b ∈ (L i).w, b ∉ (L j).w))
    (hm : m ≤ (S 0).H.length)
    (hQ : ∀ a' w' σ' φ', σ0.le σ' → (∀ k, k < m → φ' k = φ0 k) → a'.defers = a0.defers → Inv κ m σ' φ' (S ops.size).fr (S ops.size).H a' w' → Q .normal a' w') :
    ∀ (fuel : Nat) (listed : Array Bool) (a : Act) (w : World) (σ : Store) (φ : Places) (G : Get), listed.size = ops.size → ((List.range ops.size).filter fun i => !listed.getD i true).length ≤ fuel →
      (∀ j o, listed.getD j false = true → ops[j]? = some o → ∀ e ∈ o.after, Region.binds .any e = true → listed.getD e.on false = true) → a.tmps.size = N →
      (∀ t k, k ≤ ops.size → (∀ i oi, ops[i]? = some oi → oi.dst = some t → (listed.getD i false = true ↔ i < k)) → V σ φ ((S k).fr.getD t .any) (a.tmps.getD t undef)) →
      (∀ b k, k ≤ ops.size → (∀ i, i < ops.size → b ∈ (L i).w → (listed.getD i false = true ↔ i < k)) → G b = getH (S k).H b) →
      R κ σ φ G w → (∀ i b, i < ops.size → listed.getD i false = false → (S i).H.length ≤ b → b < (S (i + 1)).H.length → φ b = none) → (∀ b, (S ops.size).H.length ≤ b → φ b = none) →
      Globals Γ σ → σ0.le σ → (∀ k, k < m → φ k = φ0 k) → a.defers = a0.defers → wpAny P .any ops Q fuel listed a w := by
  have hstep : ∀ k, k < ops.size → KeepsW (S k).H (S (k + 1)).H (L k).w := fun k hk => by
    obtain ⟨h1, _, h3⟩ := hS k ops[k] (by simp [hk])
    rw [← h3]; exact stepV_keeps h1
  have hmono : ∀ j, j ≤ ops.size → ∀ i, i ≤ j → (S i).H.length ≤ (S j).H.length := by
    intro j
    induction j with
    | zero => intro _ i hi; obtain rfl : i = 0 := by omega
              exact Nat.le_refl _
    | succ j ih =>
      intro hj i hi
      by_cases e : i = j + 1
      · subst e; exact Nat.le_refl _
      · exact Nat.le_trans (ih (by omega) i (by omega)) (hstep j (by omega)).2.1
  have hflat : ∀ (b d k : Nat), k + d ≤ ops.size → (∀ i, k ≤ i → i < k + d → b ∉ (L i).w) → getH (S (k + d)).H b = getH (S k).H b := by
    intro b d
    induction d with
    | zero => intro k _ _; rfl
    | succ d ih =>
      intro k hk hno
      rw [show k + (d + 1) = k + d + 1 by omega, (hstep (k + d) (by omega)).1 b (hno (k + d) (by omega) (by omega))]
      exact ih k (by omega) fun i h1 h2 => hno i h1 (by omega)
  have fin : ∀ (listed : Array Bool) (a : Act) (w : World) (σ : Store) (φ : Places) (G : Get), (∀ i, i < ops.size → listed.getD i false = true) → a.tmps.size = N →
      (∀ t k, k ≤ ops.size → (∀ i oi, ops[i]? = some oi → oi.dst = some t → (listed.getD i false = true ↔ i < k)) → V σ φ ((S k).fr.getD t .any) (a.tmps.getD t undef)) →
      (∀ b k, k ≤ ops.size → (∀ i, i < ops.size → b ∈ (L i).w → (listed.getD i false = true ↔ i < k)) → G b = getH (S k).H b) →
      R κ σ φ G w → (∀ b, (S ops.size).H.length ≤ b → φ b = none) → σ0.le σ → (∀ k, k < m → φ k = φ0 k) → a.defers = a0.defers → Q .normal a w := by
    intro listed a w σ φ G hall hsz hV hGt hR hn hσ hφ hdf
    have e : G = getH (S ops.size).H := funext fun b => hGt b ops.size (Nat.le_refl _) fun i hi _ => ⟨fun _ => hi, fun _ => hall i hi⟩
    subst e
    refine hQ a w σ φ hσ hφ hdf ⟨Nat.le_trans hm (hmono _ (Nat.le_refl _) 0 (Nat.zero_le _)), ⟨by rw [hN _ (Nat.le_refl _)]; exact hsz.symm, fun t => hV t ops.size (Nat.le_refl _) fun i oi hi _ => ?_⟩, hR, hn⟩
    have := (Array.getElem?_eq_some_iff.1 hi).1
    exact ⟨fun _ => this, fun _ => hall i this⟩
  intro fuel
  induction fuel with
  | zero =>
    intro listed a w σ φ G hls hcnt hcl hsz hV hGt hR hnew hn hG hσ hφ hdf
    have hnil : (List.range ops.size).filter (fun i => !listed.getD i true) = [] := List.eq_nil_of_length_eq_zero (by omega)
    have hall : ∀ i, i < ops.size → listed.getD i false = true := fun i hi => by
      have := List.filter_eq_nil_iff.1 hnil i (by simpa using hi)
      rw [lget_flip (by rw [hls]; exact hi) false true]
      simpa using this
    refine ⟨?_, fin listed a w σ φ G hall hsz hV hGt hR hn hσ hφ hdf⟩
    refine List.eq_nil_iff_forall_not_mem.2 fun j hj => ?_
    obtain ⟨h0, o, ho, _⟩ := mem_ready.1 hj
    have hjl := (Array.getElem?_eq_some_iff.1 ho).1
    have := hall j hjl
    rw [lget_flip (by rw [hls]; exact hjl) false true, h0] at this
    simp at this
  | succ fuel ih =>
    intro listed a w σ φ G hls hcnt hcl hsz hV hGt hR hnew hn hG hσ hφ hdf
    refine ⟨fun hnil => ?_, fun i hi => ?_⟩
    · refine fin listed a w σ φ G (fun i => ?_) hsz hV hGt hR hn hσ hφ hdf
      induction i using Nat.strongRecOn with
      | _ i ihi =>
        intro hi
        cases hl : listed.getD i false with
        | true => rfl
        | false =>
          have hi' : ops[i]? = some ops[i] := by simp [hi]
          have : i ∈ Region.ready .any ops listed := mem_ready.2 ⟨by rw [lget_flip (by rw [hls]; exact hi) true false]; exact hl, ops[i], hi', fun e hea hbe => by
            have hlt := backOk_get hb i ops[i] (by simpa using hi') e hea hbe
            exact ihi e.on (by omega) (by omega)⟩
          rw [hnil] at this
          simp at this
    · obtain ⟨h0, o, ho, hall⟩ := mem_ready.1 hi
      have hil := (Array.getElem?_eq_some_iff.1 ho).1
      have hun : listed.getD i false = false := by rw [lget_flip (by rw [hls]; exact hil) false true]; exact h0
      have hol : ops.toList[i]? = some o := by simpa using ho
      have hmem : o ∈ ops.toList := List.mem_of_getElem? hol
      have closed : ∀ j, listed.getD j false = true → ∀ i, ((befores ops.toList []).getD j 0).testBit i = true → listed.getD i false = true :=
        befores_sound (D := fun j => listed.getD j false = true) ops.toList [] (fun j hj o' _ ho' => hcl j o' hj (by simpa using ho')) (fun j hlt => by simp at hlt)
      have ahead : ∀ i', ((befores ops.toList []).getD i 0).testBit i' = true → i' ≠ i → listed.getD i' false = true := fun i' hb' hne => by
        have := befores_sound (D := fun j => listed.getD j false = true ∨ j = i) ops.toList [] (fun j hj o' _ ho' e hea hbe => by
          rcases hj with hj | rfl
          · exact .inl (hcl j o' hj (by simpa using ho') e hea hbe)
          · have e' : o' = o := by have h1 : ops[j]? = some o' := by simpa using ho'
                                   rw [ho] at h1; exact (Option.some.inj h1).symm
            subst e'
            exact .inl (hall e hea hbe)) (fun j hlt => by simp at hlt) i (.inr rfl) i' hb'
        rcases this with h | h
        · exact h
        · exact absurd h hne
      have hslots : ∀ t ∈ slotsOf ops.toList o, V σ φ ((S i).fr.getD t .any) (a.tmps.getD t undef) := fun t ht => hV t i (by omega) fun i' oi' hi' hdst => by
          have hil' := (Array.getElem?_eq_some_iff.1 hi').1
          have hol' : ops.toList[i']? = some oi' := by simpa using hi'
          rcases Nat.lt_trichotomy i' i with hlt | rfl | hlt
          · refine ⟨fun _ => hlt, fun _ => ?_⟩
            rcases drawOk_get hd hol' hol hlt with ⟨h1, _⟩ | h1
            · exact absurd ht (h1 t hdst).1
            · exact ahead i' h1 (by omega)
          · exact ⟨fun h => by rw [hun] at h; simp at h, fun h => absurd h (Nat.lt_irrefl _)⟩
          · refine ⟨fun hl => ?_, fun h => by omega⟩
            rcases drawOk_get hd hol hol' hlt with ⟨_, h1⟩ | h1
            · exact absurd ht (h1 t hdst)
            · have := closed i' hl i h1
              rw [hun] at this; simp at this
      obtain ⟨hS1, hS2, hS3⟩ := hS i o ho
      -- a block that this step looks at is as the text has it
      have hlook : ∀ b, (∀ F, (L i).f = some F → b ∈ F) → G b = getH (S i).H b := fun b hbf => hGt b i (by omega) fun j hj hbw => by
        rcases Nat.lt_trichotomy j i with hlt | rfl | hlt
        · refine ⟨fun _ => hlt, fun _ => ?_⟩
          rcases hcf j i hlt hil with h1 | ⟨_, h1, _⟩
          · exact ahead j h1 (by omega)
          · obtain ⟨F, f1, f2⟩ := h1 b hbw
            exact absurd (hbf F f1) f2
        · exact ⟨fun h => by rw [hun] at h; simp at h, fun h => absurd h (Nat.lt_irrefl _)⟩
        · refine ⟨fun hl => ?_, fun h => by omega⟩
          rcases hcf i j hlt hj with h1 | ⟨h1, _, _⟩
          · have := closed j hl i h1
            rw [hun] at this; simp at this
          · obtain ⟨F, f1, f2⟩ := h1 b hbw
            exact absurd (hbf F f1) f2
      have hkp := hstep i hil
      have hstp := stepV_ok (Q := Q) (κ := κ) (σ := σ) (φ := φ) (w := w) (a := a) (G := G) (next := wpAny P .any ops Q fuel (listed.setIfInBounds i true)) hmem hS1 (by rw [hN i (by omega)]; exact hsz.symm)
        hslots hR hlook (fun k k1 k2 => hnew i k hil hun k1 (by rw [← hS3]; exact k2)) hG ?_
      · unfold wpOp
        rw [ho]
        split at hstp
        · rename_i hw; simp only [hw, if_true]; exact .inl hstp
        · rename_i hw; simp only [hw]; exact hstp
      · intro a' w' σ' φ' G' e1 ep en e2 e3 e4 e5 hR' g1 g2
        have hl' : ∀ j, j ≠ i → (listed.setIfInBounds i true).getD j false = listed.getD j false := fun j hj => by rw [lget, if_neg (fun h => hj h.1.symm)]
        have hli : (listed.setIfInBounds i true).getD i false = true := by rw [lget, if_pos ⟨rfl, by rw [hls]; exact hil⟩]
        rw [hS3] at en g1
        refine ih (listed.setIfInBounds i true) a' w' σ' φ' G' (by simpa using hls) ?_ ?_ (e3.trans hsz) ?_ ?_ hR' ?_ (fun b hb' => en b (hn b hb') (.inr (Nat.le_trans (hmono _ (Nat.le_refl _) (i + 1) hil) hb'))) (hG.mono e1) (Store.le_trans hσ e1)
          (fun k hk => ?_) (e2.trans hdf)
        · have := filter_lt (p := fun j => !(listed.setIfInBounds i true).getD j true) (q := fun j => !listed.getD j true) (l := List.range ops.size) (fun j _ hj => by
            rw [lget] at hj
            split at hj
            · simp at hj
            · exact hj) (x := i) (by simpa using hil) (by rw [h0]; rfl) (by rw [lget, if_pos ⟨rfl, by rw [hls]; exact hil⟩]; rfl)
          omega
        · intro j o' hj ho' e hea hbe
          by_cases hji : j = i
          · subst hji
            have e' : o' = o := by rw [ho] at ho'; exact (Option.some.inj ho').symm
            subst e'
            have h1 := hall e hea hbe
            by_cases hei : e.on = j
            · rw [hei]; exact hli
            · rw [hl' _ hei]; exact h1
          · rw [hl' j hji] at hj
            have h1 := hcl j o' hj ho' e hea hbe
            by_cases hei : e.on = i
            · rw [hei]; exact hli
            · rw [hl' _ hei]; exact h1
        · intro t k hk hag
          by_cases hdst : o.dst = some t
          · have hik : i < k := (hag i o ho hdst).1 hli
            have chain : ∀ d, i + 1 + d ≤ k → V σ' φ' ((S (i + 1 + d)).fr.getD t .any) (a'.tmps.getD t undef) := by
              intro d
              induction d with
              | zero => intro _; rw [Nat.add_zero, ← hS2]; exact e5 t hdst
              | succ d ihd =>
                intro hle
                have hlt : i + 1 + d < ops.size := by omega
                have hok : ops[i + 1 + d]? = some ops[i + 1 + d] := by simp [hlt]
                have hokl : ops.toList[i + 1 + d]? = some ops[i + 1 + d] := by simpa using hok
                have hne : (ops[i + 1 + d]).dst ≠ some t := fun hd' => by
                  have h1 := (hag (i + 1 + d) _ hok hd').2 (by omega)
                  rw [hl' _ (by omega)] at h1
                  rcases drawOk_get hd hol hokl (by omega) with ⟨h2, _⟩ | h2
                  · exact (h2 t hdst).2 hd'
                  · have := closed _ h1 i h2
                    rw [hun] at this; simp at this
                obtain ⟨q1, q2, _⟩ := hS _ _ hok
                have := (stepD_same (List.mem_of_getElem? hokl) (stepV_D q1) hne σ' φ' _).2 (ihd (by omega))
                rw [q2] at this
                exact this
            have := chain (k - (i + 1)) (by omega)
            rwa [show i + 1 + (k - (i + 1)) = k by omega] at this
          · rw [e4 t hdst]
            refine (hV t k hk fun i' oi' hi' hdst' => ?_).mono e1 ep
            have hne : i' ≠ i := fun h => by
              subst h
              rw [ho] at hi'
              have := Option.some.inj hi'
              subst this
              exact hdst hdst'
            rw [← hl' i' hne]
            exact hag i' oi' hi' hdst'
        · intro b k hk hag
          by_cases hbw : b ∈ (L i).w
          · have hik : i < k := (hag i hil hbw).1 hli
            rw [g1 b hbw]
            have := hflat b (k - (i + 1)) (i + 1) (by omega) fun j hj1 hj2 hbj => by
              have h1 := (hag j (by omega) hbj).2 (by omega)
              rw [hl' _ (by omega)] at h1
              rcases hcf i j (by omega) (by omega) with h2 | ⟨_, _, h2⟩
              · have := closed _ h1 i h2
                rw [hun] at this; simp at this
              · exact h2 b hbw hbj
            rw [show i + 1 + (k - (i + 1)) = k by omega] at this
            exact this.symm
          · rw [g2 b hbw]
            refine hGt b k hk fun j hj hbj => ?_
            have hne : j ≠ i := fun h => by subst h; exact hbw hbj
            rw [← hl' j hne]
            exact hag j hj hbj
        · intro j b hj hlj hb1 hb2
          have hne : j ≠ i := fun h => by subst h; rw [hli] at hlj; simp at hlj
          rw [hl' j hne] at hlj
          refine en b (hnew j b hj hlj hb1 hb2) ?_
          rcases Nat.lt_or_ge j i with hlt | hge
          · exact .inl (Nat.lt_of_lt_of_le hb2 (hmono i (by omega) (j + 1) hlt))
          · exact .inr (Nat.le_trans (hmono j (by omega) (i + 1) (by omega)) hb1)
        · have : k < (S i).H.length := Nat.lt_of_lt_of_le hk (Nat.le_trans hm (hmono i (by omega) 0 (Nat.zero_le _)))
          rw [← hφ k hk]
          cases hp : φ k with
          | none => exact en k hp (.inl this)
          | some L' => exact ep k L' hp
/-- the states between the operations -/
theorem stepsY_states {ops : Array Oper} : ∀ (l : List Oper) (fr : List AV) (H : Heap) (R : List StW), (stepsY T ip ops l fr H).get = some R → ∃ (S : Nat → St), S 0 = ⟨fr, H, false⟩ ∧ R.length = l.length ∧
    (∀ k o r, l[k]? = some o → R[k]? = some r → (stepV T ip ops o (S k)).get = some r ∧ r.s.fr = (S (k + 1)).fr ∧ r.s.H = (S (k + 1)).H) := by
  intro l
  induction l with
  | nil =>
    intro fr H R h
    obtain rfl := Tree.leafX_get h
    exact ⟨fun _ => ⟨fr, H, false⟩, rfl, rfl, fun k o r ho => by simp at ho⟩
  | cons o l ih =>
    intro fr H R h
    simp only [stepsY] at h
    obtain ⟨r1, h1, h2⟩ := Tree.get_bind_some h
    obtain ⟨R', h3, h4⟩ := Tree.get_bind_some h2
    obtain rfl := Tree.leafX_get h4
    obtain ⟨S, k1, k2, k3⟩ := ih r1.s.fr r1.s.H R' h3
    refine ⟨fun k => match k with | 0 => ⟨fr, H, false⟩ | k + 1 => S k, rfl, by simp [k2], fun k o' r ho' hr => ?_⟩
    cases k with
    | zero =>
      simp only [List.getElem?_cons_zero, Option.some.injEq] at ho' hr
      subst ho'; subst hr
      exact ⟨h1, by show r1.s.fr = (S 0).fr; rw [k1], by show r1.s.H = (S 0).H; rw [k1]⟩
    | succ k => exact k3 k o' r (by simpa using ho') (by simpa using hr)
theorem lastX_states {S : Nat → St} : ∀ {R : List StW} {k : Nat}, (∀ (i : Nat) (r : StW), R[i]? = some r → r.s.fr = (S (k + i + 1)).fr ∧ r.s.H = (S (k + i + 1)).H) → lastX (S k).fr (S k).H (R.map (·.s)) = ((S (k + R.length)).fr, (S (k + R.length)).H)
  | [], k, _ => rfl
  | r :: R, k, h => by
    obtain ⟨h1, h2⟩ := h 0 r rfl
    show lastX r.s.fr r.s.H (R.map (·.s)) = _
    rw [h1, h2, Nat.add_zero, lastX_states (k := k + 1) fun i r' hr => by
      have := h (i + 1) r' (by simpa using hr)
      rwa [show k + (i + 1) + 1 = k + 1 + i + 1 by omega] at this, List.length_cons, show k + 1 + R.length = k + (R.length + 1) by omega]
theorem meets_false {a b : List Nat} (h : meets a b = false) : ∀ x ∈ a, x ∉ b := by
  intro x hx hxb
  have := List.any_eq_false.1 h x hx
  rw [memN_iff.2 hxb] at this
  simp at this
theorem apartW_ok {w : List Nat} {f : Option (List Nat)} (h : apartW w f = true) : ∀ b ∈ w, ∃ F, f = some F ∧ b ∉ F := by
  intro b hb
  unfold apartW at h
  split at h
  · simp at hb
  · split at h
    · rename_i F
      exact ⟨F, rfl, meets_false (by simpa using h) b hb⟩
    · simp at h
theorem footOk_get {bef : List Nat} {L : List StW} (h : footOk bef L = true) {i j : Nat} {ri rj : StW} (hi : L[i]? = some ri) (hj : L[j]? = some rj) (hlt : i < j) :
    (bef.getD j 0).testBit i = true ∨ ((∀ b ∈ rj.w, ∃ F, ri.f = some F ∧ b ∉ F) ∧ (∀ b ∈ ri.w, ∃ F, rj.f = some F ∧ b ∉ F) ∧ ∀ b ∈ ri.w, b ∉ rj.w) := by
  unfold footOk at h
  have hjl : j < L.length := (List.getElem?_eq_some_iff.1 hj).1
  have h1 := List.all_eq_true.1 h j (by simpa using hjl)
  simp only [hj] at h1
  have h2 := List.all_eq_true.1 h1 i (by simpa using hlt)
  simp only [hi, Bool.or_eq_true, Bool.and_eq_true, Bool.not_eq_true'] at h2
  rcases h2 with h2 | ⟨⟨h3, h4⟩, h5⟩
  · exact .inl h2
  · exact .inr ⟨apartW_ok h3, apartW_ok h4, meets_false h5⟩
/-- **a region that draws its order** -/
theorem draw_ok {ops : Array Oper} {id : Nat} {fr : List AV} {H : Heap} {s' : St} {a : Act} {Q : Exit → Act → World → Prop} (h : (drawE T ip ops fr H).get = some s') (hI : Inv κ m σ φ fr H a w) (hG : Globals Γ σ)
    (hQ : ∀ a' w' σ' φ', σ.le σ' → (∀ k, k < m → φ' k = φ k) → a'.defers = a.defers → Inv κ m σ' φ' s'.fr s'.H a' w' → Q .normal a' w') : (Code.region id ops true).wp P Q a w := by
  unfold drawE at h
  split at h
  · rename_i hc
    simp only [Bool.and_eq_true] at hc
    obtain ⟨⟨hd, hb⟩, hmix⟩ := hc
    obtain ⟨s, h1, h2⟩ := merge_ok (s0 := ⟨fr, H, false⟩) drawY_keeps h
    obtain ⟨Rs, k1, k2⟩ := Tree.get_bind_some h1
    have kX : (stepsX T ip ops ops.toList fr H).get = some (Rs.map (·.s)) := by rw [← stepsY_map, Tree.get_bind, k1]; rfl
    have viaX : (endX T ip ops fr H (Rs.map (·.s))).get = some s → (Code.region id ops true).wp P Q a w := fun hx =>
      drawX_ok hd hb hmix kX hx hI hG fun a' w' σ' φ' e1 e2 e3 hI' => hQ a' w' σ' φ' e1 e2 e3 (h2 _ _ _ _ _ _ hI')
    unfold endY at k2
    split at k2
    · rename_i hw
      refine viaX ?_
      unfold endX
      rw [hw]
      exact k2
    · split at k2
      · rename_i hfo
        have := Tree.leafX_get k2
        subst this
        obtain ⟨S, j1, j2, j3⟩ := stepsY_states ops.toList fr H Rs k1
        have hsz : ops.toList.length = ops.size := by simp
        rw [hsz] at j2
        have hat : ∀ k, k < ops.size → ∃ r, Rs[k]? = some r := fun k hk => ⟨Rs[k]'(by rw [j2]; exact hk), by simp [j2, hk]⟩
        let L : Nat → StW := fun k => Rs.getD k ⟨⟨[], [], false⟩, [], none⟩
        have hL : ∀ k, k < ops.size → Rs[k]? = some (L k) := fun k hk => by
          obtain ⟨r, hr⟩ := hat k hk
          rw [hr]
          show _ = some (Rs.getD k _)
          rw [List.getD_eq_getElem?_getD, hr]; rfl
        have hS : ∀ k o, ops[k]? = some o → (stepV T ip ops o (S k)).get = some (L k) ∧ (L k).s.fr = (S (k + 1)).fr ∧ (L k).s.H = (S (k + 1)).H := fun k o ho =>
          j3 k o (L k) (by simpa using ho) (hL k (Array.getElem?_eq_some_iff.1 ho).1)
        have hlast := lastX_states (S := S) (R := Rs) (k := 0) fun i r hr => by
          have hi : i < ops.size := by rw [← j2]; exact (List.getElem?_eq_some_iff.1 hr).1
          rw [Nat.zero_add]
          exact (j3 i ops[i] r (by simp [hi]) hr).2
        rw [j1, Nat.zero_add, j2] at hlast
        have hN : ∀ k, k ≤ ops.size → (S k).fr.length = fr.length := by
          intro k
          induction k with
          | zero => intro _; rw [j1]
          | succ k ih =>
            intro hk
            have hok : ops[k]? = some ops[k] := by simp [show k < ops.size from hk]
            obtain ⟨q1, q2, _⟩ := hS k _ hok
            have := ((stepD_keeps (List.mem_of_getElem? (show ops.toList[k]? = some ops[k] by simpa using hok))).get (stepV_D q1)).1
            rw [q2] at this
            exact this.trans (ih (by omega))
        refine wp_region_any hmix ?_
        refine anyF_ok (κ := κ) (m := m) (S := S) (L := L) (N := fr.length) (σ0 := σ) (φ0 := φ) (a0 := a) hd hb hS hN (fun i j hij hj => footOk_get hfo (hL i (by omega)) (hL j hj) hij) (by rw [j1]; exact hI.len)
          (fun a' w' σ' φ' e1 e2 e3 hI' => hQ a' w' σ' φ' e1 e2 e3 (h2 _ _ _ _ _ _ (by rw [hlast]; exact hI')))
          ops.size _ a _ σ φ (getH H) (by simp) ?_ ?_ hI.F.1.symm ?_ ?_ ?_ ?_ ?_ hG (Store.le_refl σ) (fun _ _ => rfl) rfl
        · exact Nat.le_trans (List.length_filter_le _ _) (by simp)
        · intro j o hj
          rw [Array.getD_eq_getD_getElem?, Array.getElem?_replicate] at hj
          split at hj <;> simp at hj
        · intro t k hk hag
          have : ∀ d, d ≤ k → V σ φ ((S d).fr.getD t .any) (a.tmps.getD t undef) := by
            intro d
            induction d with
            | zero => intro _; rw [j1]; exact hI.F.2 t
            | succ d ih =>
              intro hd'
              have hlt : d < ops.size := by omega
              have hok : ops[d]? = some ops[d] := by simp [hlt]
              have hne : (ops[d]).dst ≠ some t := fun hdst => by
                have := (hag d _ hok hdst).2 (by omega)
                rw [Array.getD_eq_getD_getElem?, Array.getElem?_replicate] at this
                split at this <;> simp at this
              obtain ⟨q1, q2, _⟩ := hS d _ hok
              have := (stepD_same (List.mem_of_getElem? (show ops.toList[d]? = some ops[d] by simpa using hok)) (stepV_D q1) hne σ φ _).2 (ih (by omega))
              rw [q2] at this
              exact this
          exact this k (Nat.le_refl _)
        · intro b k hk hag
          have : ∀ d, d ≤ k → getH H b = getH (S d).H b := by
            intro d
            induction d with
            | zero => intro _; rw [j1]
            | succ d ih =>
              intro hd'
              have hlt : d < ops.size := by omega
              have hok : ops[d]? = some ops[d] := by simp [hlt]
              obtain ⟨q1, _, q3⟩ := hS d _ hok
              have hno : b ∉ (L d).w := fun hbw => by
                have := (hag d hlt hbw).2 (by omega)
                rw [Array.getD_eq_getD_getElem?, Array.getElem?_replicate] at this
                split at this <;> simp at this
              have := (stepV_keeps q1).1 b hno
              rw [q3] at this
              rw [this]; exact ih (by omega)
          exact this k (Nat.le_refl _)
        · exact hI.R.drew rfl rfl rfl rfl
        · intro i b hi _ hb1 _
          refine hI.none b (Nat.le_trans ?_ hb1)
          have : ∀ d, d ≤ i → H.length ≤ (S d).H.length := by
            intro d
            induction d with
            | zero => intro _; rw [j1]; exact Nat.le_refl _
            | succ d ih =>
              intro hd'
              have hlt : d < ops.size := by omega
              have hok : ops[d]? = some ops[d] := by simp [hlt]
              obtain ⟨q1, _, q3⟩ := hS d _ hok
              have := (stepV_keeps q1).2.1
              rw [q3] at this
              exact Nat.le_trans (ih (by omega)) this
          exact this i (Nat.le_refl _)
        · intro b hb1
          refine hI.none b (Nat.le_trans ?_ hb1)
          have : ∀ d, d ≤ ops.size → H.length ≤ (S d).H.length := by
            intro d
            induction d with
            | zero => intro _; rw [j1]; exact Nat.le_refl _
            | succ d ih =>
              intro hd'
              have hlt : d < ops.size := by omega
              have hok : ops[d]? = some ops[d] := by simp [hlt]
              obtain ⟨q1, _, q3⟩ := hS d _ hok
              have := (stepV_keeps q1).2.1
              rw [q3] at this
              exact Nat.le_trans (ih (by omega)) this
          exact this ops.size (Nat.le_refl _)
      · exact viaX k2
  · simp [Tree.get] at h
end
end Go.Eng
