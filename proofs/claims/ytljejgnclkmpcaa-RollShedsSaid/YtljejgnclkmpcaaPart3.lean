/- Texts that RS13r needs: EngTd and what follows it. -/
import Derived.Test.YtljejgnclkmpcaaPart2
import Derived.ProofKit
import Derived.ReadAgain
import Derived.ChangeBears
import Derived.ChangeSame
import Derived.OpenShut
import Derived.RowKit
import Derived.Lib.LaidTab
import Derived.ChangeSlices
set_option linter.unnecessarySimpa false
set_option linter.unusedSectionVars false
set_option linter.unusedSimpArgs false
set_option linter.unusedVariables false
namespace Go.Eng
open Go

section
variable {P : Program} {Γ : Nat → AV} {κ : Ctx} {m : Nat} {σ : Store} {φ : Places} {w : World} {ip : Bool} {T : List (CT P Γ)}

theorem stepE_same {ops : Array Oper} {o : Oper} {s s' : St} (h : (stepE T ip ops o s).get = some s') {t : Nat} (ht : o.dst ≠ some t) (σ : Store) (φ : Places) (v : Value) :
    V σ φ (s'.fr.getD t .any) v ↔ V σ φ (s.fr.getD t .any) v := by
  have put : ∀ {fr : List AV} {x : AV}, (putF fr o.dst x).getD t .any = fr.getD t .any := fun {fr x} => putF_keep fun t' h' e => ht (by rw [h', e])
  have done : ∀ {fr : List AV} {H : Heap} {e : Bool} {nb : Nat} {get : Get} {ρ : Operand → AV}, ((opE T ip nb get ρ o.op).bind fun out => .leaf (doneE ⟨fr, H, e⟩ o out)).get = some s' → s'.fr.getD t .any = fr.getD t .any := by
    intro fr H e nb get ρ he
    obtain ⟨out, _, hd⟩ := Tree.get_bind_some he
    simp only [Tree.get, Option.some.injEq] at hd
    subst hd
    exact put
  have refi : ∀ {t' : Nat} {b : Bool}, s.fr.getD t' .any = .sb b → ∀ c, b = c → (V σ φ ((s.fr.set t' (.v (.bool c))).getD t .any) v ↔ V σ φ (s.fr.getD t .any) v) := by
    intro t' b hb c e
    subst e
    rw [getD_set]
    split
    · rename_i hh
      obtain ⟨rfl, _⟩ := hh
      rw [hb]
      exact ⟨fun hv => by rw [hv.v_eq]; exact V_sb _, fun hv => by rw [hv.sb_eq]; exact V_v _⟩
    · rfl
  unfold stepE at h
  split at h
  · rw [done h]
  · split at h
    · split at h
      · rename_i t' ht'
        split at h
        · split at h
          · rw [done h]
          · simp only [Tree.get, Option.some.injEq] at h
            subst h
            rw [put]
        · simp only [Tree.get, Option.some.injEq] at h
          subst h
          rw [put]
        · rename_i b hb
          split at h
          · cases b with
            | true => simp only [Tree.get] at h; rw [done h]; exact refi hb true rfl
            | false =>
              simp only [Tree.get, Option.some.injEq] at h
              subst h
              rw [put]; exact refi hb false rfl
          · cases b with
            | true =>
              simp only [Tree.get, Option.some.injEq] at h
              subst h
              rw [put]; exact refi hb true rfl
            | false => simp only [Tree.get] at h; rw [done h]; exact refi hb false rfl
        · simp [Tree.get] at h
      · simp [Tree.get] at h
    · simp [Tree.get] at h

theorem stepD_get {ops : Array Oper} {o : Oper} {s s' : St} (h : (stepD T ip ops o s).get = some s') : ∃ s1, (stepE T ip ops o ⟨maskF (slotsOf ops.toList o) 0 s.fr, s.H, s.eff⟩).get = some s1 ∧ s' = ⟨unmaskF (slotsOf ops.toList o ++ o.dst.toList) 0 s.fr s1.fr, s1.H, s1.eff⟩ := by
  obtain ⟨s1, h1, h2⟩ := Tree.get_bind_some h
  simp only [Tree.get, Option.some.injEq] at h2
  exact ⟨s1, h1, h2.symm⟩

theorem stepD_same {ops : Array Oper} {o : Oper} (ho : o ∈ ops.toList) {s s' : St} (h : (stepD T ip ops o s).get = some s') {t : Nat} (ht : o.dst ≠ some t) (σ : Store) (φ : Places) (v : Value) :
    V σ φ (s'.fr.getD t .any) v ↔ V σ φ (s.fr.getD t .any) v := by
  obtain ⟨s1, h1, rfl⟩ := stepD_get h
  have hl : s1.fr.length = s.fr.length := ((step_keeps ho).get h1).1.trans maskF_len
  show V σ φ ((unmaskF _ 0 s.fr s1.fr).getD t .any) v ↔ _
  rw [unmaskF_get hl, Nat.zero_add]
  split
  · rename_i hm
    rw [stepE_same h1 ht σ φ v, maskF_get, Nat.zero_add]
    have : t ∈ slotsOf ops.toList o := by
      rcases List.mem_append.1 (memN_iff.1 hm) with h | h
      · exact h
      · cases hd : o.dst with
        | none => rw [hd] at h; simp at h
        | some t' => rw [hd] at h; simp at h; exact absurd (by rw [hd, h]) ht
    rw [memN_iff.2 this]
  · rfl

theorem stepD_ok {ops : Array Oper} {o : Oper} (ho : o ∈ ops.toList) {s s' : St} {a : Act} {Q : Exit → Act → World → Prop} {next : Act → World → Prop} (h : (stepD T ip ops o s).get = some s')
    (hlen : s.fr.length = a.tmps.size) (hF : ∀ t ∈ slotsOf ops.toList o, V σ φ (s.fr.getD t .any) (a.tmps.getD t undef)) (hR : R κ σ φ (getH s.H) w) (hn : ∀ k, s.H.length ≤ k → φ k = none) (hG : Globals Γ σ)
    (hK : ∀ a' w' σ' φ', σ.le σ' → (∀ k, k < s.H.length → φ' k = φ k) → a'.defers = a.defers → a'.tmps.size = a.tmps.size → (∀ t, o.dst ≠ some t → a'.tmps.getD t undef = a.tmps.getD t undef) → (∀ t, o.dst = some t → V σ' φ' (s'.fr.getD t .any) (a'.tmps.getD t undef)) →
      R κ σ' φ' (getH s'.H) w' → (∀ k, s'.H.length ≤ k → φ' k = none) → next a' w') :
    if Region.wanted o (yielded ops a.tmps) then o.wp P a w next Q else next (a.put o.dst undef) w := by
  obtain ⟨s1, h1, rfl⟩ := stepD_get h
  have hk := (step_keeps (T := T) (ip := ip) ho).get h1
  have hl : s1.fr.length = s.fr.length := hk.1.trans maskF_len
  refine step_ok (κ := κ) (m := s.H.length) h1 ⟨Nat.le_refl _, ⟨by rw [maskF_len]; exact hlen, fun t => ?_⟩, hR, hn⟩ hG fun a' w' σ' φ' e1 e2 e3 e4 hI => ?_
  · rw [maskF_get, Nat.zero_add]
    split
    · rename_i hm'; exact hF t (memN_iff.1 hm')
    · exact V_any _
  · refine hK a' w' σ' φ' e1 e2 e3 (by rw [← hI.F.1, hl]; exact hlen) e4 (fun t ht => ?_) hI.R hI.none
    show V σ' φ' ((unmaskF _ 0 s.fr s1.fr).getD t .any) _
    rw [unmaskF_get hl, Nat.zero_add]
    have : memN t (slotsOf ops.toList o ++ o.dst.toList) = true := memN_iff.2 (List.mem_append_right _ (by rw [ht]; simp))
    rw [this]
    exact hI.F.2 t

theorem Tree.chkX_get {α : Type} {c : Bool} {t : Tree α} {r : α} (h : (Tree.chk c t).get = some r) : c = true ∧ t.get = some r := by
  cases c with
  | true => exact ⟨rfl, h⟩
  | false => simp [Tree.get] at h
theorem Tree.leafX_get {α : Type} {a r : α} (h : (Tree.leaf a).get = some r) : a = r := by
  simp only [Tree.get, Option.some.injEq] at h; exact h
def cntX (ef : Nat → Bool) : Nat → Nat
  | 0 => 0
  | k + 1 => cntX ef k + (ef k).toNat
theorem cntX_mono {ef : Nat → Bool} {i j : Nat} (h : i ≤ j) : cntX ef i ≤ cntX ef j := by
  induction j with
  | zero => obtain rfl : i = 0 := by omega
            exact Nat.le_refl _
  | succ j ih =>
    rcases Nat.lt_or_ge j i with hl | hl
    · obtain rfl : i = j + 1 := by omega
      exact Nat.le_refl _
    · exact Nat.le_trans (ih hl) (Nat.le_add_right _ _)
theorem cntX_lt {ef : Nat → Bool} {i j : Nat} (h : i < j) (he : ef i = true) : cntX ef i < cntX ef j := by
  have := cntX_mono (ef := ef) (show i + 1 ≤ j from h)
  simp only [cntX, he, Bool.toNat_true] at this
  omega
theorem cntX_hit {ef : Nat → Bool} {p : Nat} : ∀ {k : Nat}, p < cntX ef k → ∃ e, e < k ∧ ef e = true ∧ cntX ef e = p
  | 0, h => by simp [cntX] at h
  | k + 1, h => by
    by_cases hl : p < cntX ef k
    · obtain ⟨e, h1, h2, h3⟩ := cntX_hit hl
      exact ⟨e, by omega, h2, h3⟩
    · simp only [cntX] at h
      cases he : ef k with
      | false => rw [he] at h; simp at h; omega
      | true => rw [he] at h; simp at h; exact ⟨k, by omega, he, by omega⟩
theorem stepsX_states {ops : Array Oper} : ∀ (l : List Oper) (fr : List AV) (H : Heap) (R : List St), (stepsX T ip ops l fr H).get = some R → ∃ (S : Nat → St) (ef : Nat → Bool), S 0 = ⟨fr, H, false⟩ ∧ (∀ k, (S k).eff = false) ∧
    (∀ k o, l[k]? = some o → (stepD T ip ops o (S k)).get = some ⟨(S (k + 1)).fr, (S (k + 1)).H, ef k⟩) ∧ R.length = l.length ∧ (∀ (k : Nat) (s : St), R[k]? = some s → s = ⟨(S (k + 1)).fr, (S (k + 1)).H, ef k⟩) := by
  intro l
  induction l with
  | nil =>
    intro fr H R h
    obtain rfl := Tree.leafX_get h
    exact ⟨fun _ => ⟨fr, H, false⟩, fun _ => false, rfl, fun _ => rfl, fun k o ho => by simp at ho, rfl, fun k s hs => by simp at hs⟩
  | cons o l ih =>
    intro fr H R h
    simp only [stepsX] at h
    obtain ⟨s1, h1, h2⟩ := Tree.get_bind_some h
    obtain ⟨R', h3, h4⟩ := Tree.get_bind_some h2
    obtain rfl := Tree.leafX_get h4
    obtain ⟨S, ef, k1, k2, k3, k4, k5⟩ := ih s1.fr s1.H R' h3
    refine ⟨fun k => match k with | 0 => ⟨fr, H, false⟩ | k + 1 => S k, fun k => match k with | 0 => s1.eff | k + 1 => ef k, rfl, fun k => ?_, fun k o' ho' => ?_, by simp [k4], fun k s hs => ?_⟩
    · cases k with
      | zero => rfl
      | succ k => exact k2 k
    · cases k with
      | zero =>
        simp only [List.getElem?_cons_zero, Option.some.injEq] at ho'; subst ho'
        show _ = some (St.mk (S 0).fr (S 0).H s1.eff)
        rw [k1]; exact h1
      | succ k => exact k3 k o' (by simpa using ho')
    · cases k with
      | zero =>
        simp only [List.getElem?_cons_zero, Option.some.injEq] at hs; subst hs
        show _ = St.mk (S 0).fr (S 0).H s1.eff
        rw [k1]
      | succ k => exact k5 k s (by simpa using hs)

theorem backOk_get : ∀ {l : List Oper} {k : Nat}, backOk k l = true → ∀ (j : Nat) (o : Oper), l[j]? = some o → ∀ e ∈ o.after, Region.binds .any e = true → e.on < k + j := by
  intro l
  induction l with
  | nil => intro k _ j o h; simp at h
  | cons o l ih =>
    intro k h j o' ho' e he hb
    simp only [backOk, Bool.and_eq_true, List.all_eq_true] at h
    cases j with
    | zero =>
      simp only [List.getElem?_cons_zero, Option.some.injEq] at ho'
      subst ho'
      have := h.1 e (by simpa using he)
      rw [hb] at this
      simpa using this
    | succ j =>
      have := ih h.2 j o' (by simpa using ho') e he hb
      omega

theorem befores_sound {D : Nat → Prop} : ∀ (l : List Oper) (acc : List Nat),
    (∀ j, D j → ∀ (o : Oper), acc.length ≤ j → l[j - acc.length]? = some o → ∀ e ∈ o.after, Region.binds .any e = true → D e.on) →
    (∀ j, j < acc.length → D j → ∀ i, (acc.getD j 0).testBit i = true → D i) →
    ∀ j, D j → ∀ i, ((befores l acc).getD j 0).testBit i = true → D i := by
  intro l
  induction l with
  | nil =>
    intro acc h1 h2 j hj i hi
    simp only [befores] at hi
    by_cases hlt : j < acc.length
    · exact h2 j hlt hj i hi
    · rw [List.getD_eq_getElem?_getD, List.getElem?_eq_none (by omega)] at hi
      simp at hi
  | cons o l ih =>
    intro acc h1 h2
    simp only [befores]
    refine ih _ (fun j hj o' hl ho' => ?_) (fun j hlt hj i hi => ?_)
    · simp only [List.length_append, List.length_singleton] at hl ho'
      refine h1 j hj o' (by omega) ?_
      rw [show j - acc.length = (j - (acc.length + 1)) + 1 by omega]
      simpa using ho'
    · simp only [List.length_append, List.length_singleton] at hlt
      by_cases hlt' : j < acc.length
      · rw [List.getD_eq_getElem?_getD, List.getElem?_append_left hlt', ← List.getD_eq_getElem?_getD] at hi
        exact h2 j hlt' hj i hi
      · have e : j = acc.length := by omega
        subst e
        have hedge : ∀ e ∈ o.after, Region.binds .any e = true → D e.on := h1 acc.length hj o (Nat.le_refl _) (by simp)
        rw [List.getD_eq_getElem?_getD, List.getElem?_append_right (Nat.le_refl _), Nat.sub_self] at hi
        simp only [List.getElem?_cons_zero, Option.getD_some] at hi
        -- the fold
        have key : ∀ (es : List Edge) (s : Nat), (∀ e ∈ es, Region.binds .any e = true → D e.on) → (s.testBit i = true → D i) →
            ((es.foldl (fun s e => match Region.binds .any e with
              | true => s ||| 2 ^ e.on ||| acc.getD e.on 0
              | false => s) s).testBit i = true → D i) := by
          intro es
          induction es with
          | nil => intro s _ hs h; exact hs h
          | cons e es ihe =>
            intro s hes hs h
            simp only [List.foldl_cons] at h
            refine ihe _ (fun e' he' => hes e' (by simp [he'])) ?_ h
            intro hb
            split at hb
            · rename_i hbe
              simp only [Nat.testBit_or, Bool.or_eq_true] at hb
              rcases hb with (hb | hb) | hb
              · exact hs hb
              · have : e.on = i := by
                  rw [Nat.testBit_two_pow] at hb
                  simpa using hb
                rw [← this]; exact hes e (by simp) hbe
              · by_cases hlt : e.on < acc.length
                · exact h2 e.on hlt (hes e (by simp) hbe) i hb
                · rw [List.getD_eq_getElem?_getD, List.getElem?_eq_none (by omega)] at hb
                  simp at hb
            · exact hs hb
        exact key o.after.toList 0 (fun e he => hedge e (by simpa using he)) (by simp) hi

theorem drawOk_get {ops : List Oper} (h : drawOk ops = true) {i j : Nat} {oi oj : Oper} (hi : ops[i]? = some oi) (hj : ops[j]? = some oj) (hlt : i < j) :
    ((∀ t, oi.dst = some t → t ∉ slotsOf ops oj ∧ oj.dst ≠ some t) ∧ (∀ t, oj.dst = some t → t ∉ slotsOf ops oi)) ∨ ((befores ops []).getD j 0).testBit i = true := by
  unfold drawOk at h
  have hjl : j < ops.length := (List.getElem?_eq_some_iff.1 hj).1
  have h1 := List.all_eq_true.1 h j (by simpa using hjl)
  simp only [hj] at h1
  have h2 := List.all_eq_true.1 h1 i (by simpa using hlt)
  simp only [hi, Bool.or_eq_true, Bool.and_eq_true, Bool.not_eq_true'] at h2
  rcases h2 with ⟨h3, h4⟩ | h3
  · refine .inl ⟨fun t ht => ?_, fun t ht => ?_⟩
    · rw [ht] at h3
      simp only [meets, Option.toList_some, List.any_cons, List.any_nil, Bool.or_false] at h3
      have hn : t ∉ slotsOf ops oj ++ oj.dst.toList := fun hm => by rw [memN_iff.2 hm] at h3; simp at h3
      refine ⟨fun hm => hn (List.mem_append_left _ hm), fun hd => hn (List.mem_append_right _ (by rw [hd]; simp))⟩
    · rw [ht] at h4
      simp only [meets, Option.toList_some, List.any_cons, List.any_nil, Bool.or_false] at h4
      exact fun hm => by rw [memN_iff.2 hm] at h4; simp at h4
  · exact .inr h3

theorem lget {l : Array Bool} {i j : Nat} {d : Bool} : (l.setIfInBounds i true).getD j d = if i = j ∧ i < l.size then true else l.getD j d := by
  simp only [Array.getD_eq_getD_getElem?, Array.getElem?_setIfInBounds]
  by_cases h : i = j
  · subst h
    by_cases h2 : i < l.size
    · simp [h2]
    · simp [h2]
  · simp [h]
theorem lget_flip {l : Array Bool} {j : Nat} (h : j < l.size) (d d' : Bool) : l.getD j d = l.getD j d' := by
  simp [Array.getD_eq_getD_getElem?, h]
theorem filter_lt {α : Type} {p q : α → Bool} : ∀ {l : List α}, (∀ x ∈ l, p x = true → q x = true) → ∀ {x : α}, x ∈ l → q x = true → p x = false → (l.filter p).length < (l.filter q).length
  | [], _, x, hx, _, _ => by simp at hx
  | y :: l, h, x, hx, hq, hp => by
    have hle : ∀ l : List α, (∀ x ∈ l, p x = true → q x = true) → (l.filter p).length ≤ (l.filter q).length := by
      intro l
      induction l with
      | nil => intro _; simp
      | cons z l ih =>
        intro h
        have := ih fun x hx => h x (by simp [hx])
        by_cases hz : p z = true
        · simp [List.filter_cons, hz, h z (by simp) hz]; exact this
        · have hz' : p z = false := by simpa using hz
          by_cases hz2 : q z = true
          · simp [List.filter_cons, hz', hz2]; omega
          · have : q z = false := by simpa using hz2
            simp [List.filter_cons, hz', this]; assumption
    rcases List.mem_cons.1 hx with rfl | hx'
    · have := hle l fun x hx => h x (by simp [hx])
      simp [List.filter_cons, hp, hq]; omega
    · have := filter_lt (l := l) (fun x hx => h x (by simp [hx])) hx' hq hp
      by_cases hz : p y = true
      · simp [List.filter_cons, hz, h y (by simp) hz]; exact this
      · have hz' : p y = false := by simpa using hz
        by_cases hz2 : q y = true
        · simp [List.filter_cons, hz', hz2]; omega
        · have : q y = false := by simpa using hz2
          simp [List.filter_cons, hz', this]; assumption

theorem any_ok {ops : Array Oper} {Q : Exit → Act → World → Prop} {S : Nat → St} {ef : Nat → Bool} {hp : Nat → Heap} {N : Nat} {σ0 : Store} {φ0 : Places} {a0 : Act} (hd : drawOk ops.toList = true) (hb : backOk 0 ops.toList = true)
    (hS : ∀ k o, ops[k]? = some o → (stepD T ip ops o (S k)).get = some ⟨(S (k + 1)).fr, (S (k + 1)).H, ef k⟩) (hE : ∀ k, (S k).eff = false) (hH : ∀ k, k ≤ ops.size → (S k).H = hp (cntX ef k)) (hN : ∀ k, k ≤ ops.size → (S k).fr.length = N)
    (hm : ∀ p, p ≤ cntX ef ops.size → m ≤ (hp p).length)
    (hord : ∀ i j, i < j → j < ops.size → ef i = true → ef j = true → ((befores ops.toList []).getD j 0).testBit i = true)
    (hstab : ∀ k o p, ops[k]? = some o → ef k = false → p ≤ cntX ef ops.size → (∀ e, e < ops.size → ef e = true → ((befores ops.toList []).getD k 0).testBit e = true → cntX ef e < p) →
      (∀ e, e < ops.size → ef e = true → ((befores ops.toList []).getD e 0).testBit k = true → p ≤ cntX ef e) → ∃ s, (stepD T ip ops o ⟨(S k).fr, hp p, false⟩).get = some s ∧ s.eff = false ∧ ∀ t, o.dst = some t → s.fr.getD t .any = (S (k + 1)).fr.getD t .any)
    (hQ : ∀ a' w' σ' φ', σ0.le σ' → (∀ k, k < m → φ' k = φ0 k) → a'.defers = a0.defers → Inv κ m σ' φ' (S ops.size).fr (S ops.size).H a' w' → Q .normal a' w') :
    ∀ (fuel : Nat) (listed : Array Bool) (a : Act) (w : World) (σ : Store) (φ : Places) (p : Nat), listed.size = ops.size → ((List.range ops.size).filter fun i => !listed.getD i true).length ≤ fuel →
      (∀ j o, listed.getD j false = true → ops[j]? = some o → ∀ e ∈ o.after, Region.binds .any e = true → listed.getD e.on false = true) → a.tmps.size = N →
      (∀ t k, k ≤ ops.size → (∀ i oi, ops[i]? = some oi → oi.dst = some t → (listed.getD i false = true ↔ i < k)) → V σ φ ((S k).fr.getD t .any) (a.tmps.getD t undef)) →
      p ≤ cntX ef ops.size → (∀ e, e < ops.size → ef e = true → (listed.getD e false = true ↔ cntX ef e < p)) →
      R κ σ φ (getH (hp p)) w → (∀ k, (hp p).length ≤ k → φ k = none) → Globals Γ σ → σ0.le σ → (∀ k, k < m → φ k = φ0 k) → a.defers = a0.defers → wpAny P .any ops Q fuel listed a w := by
  have fin : ∀ (listed : Array Bool) (a : Act) (w : World) (σ : Store) (φ : Places) (p : Nat), (∀ i, i < ops.size → listed.getD i false = true) → a.tmps.size = N →
      (∀ t k, k ≤ ops.size → (∀ i oi, ops[i]? = some oi → oi.dst = some t → (listed.getD i false = true ↔ i < k)) → V σ φ ((S k).fr.getD t .any) (a.tmps.getD t undef)) →
      p ≤ cntX ef ops.size → (∀ e, e < ops.size → ef e = true → (listed.getD e false = true ↔ cntX ef e < p)) →
      R κ σ φ (getH (hp p)) w → (∀ k, (hp p).length ≤ k → φ k = none) → σ0.le σ → (∀ k, k < m → φ k = φ0 k) → a.defers = a0.defers → Q .normal a w := by
    intro listed a w σ φ p hall hsz hV hpl hpe hR hn hσ hφ hdf
    have hpe' : p = cntX ef ops.size := by
      rcases Nat.lt_or_ge p (cntX ef ops.size) with hl | hl
      · obtain ⟨e, e1, e2, e3⟩ := cntX_hit hl
        have := (hpe e e1 e2).1 (hall e e1)
        omega
      · omega
    subst hpe'
    rw [← hH _ (Nat.le_refl _)] at hR hn
    refine hQ a w σ φ hσ hφ hdf ⟨by rw [hH _ (Nat.le_refl _)]; exact hm _ (Nat.le_refl _), ⟨by rw [hN _ (Nat.le_refl _)]; exact hsz.symm, fun t => hV t ops.size (Nat.le_refl _) fun i oi hi _ => ?_⟩, hR, hn⟩
    have := (Array.getElem?_eq_some_iff.1 hi).1
    exact ⟨fun _ => this, fun _ => hall i this⟩
  intro fuel
  induction fuel with
  | zero =>
    intro listed a w σ φ p hls hcnt hcl hsz hV hpl hpe hR hn hG hσ hφ hdf
    have hnil : (List.range ops.size).filter (fun i => !listed.getD i true) = [] := List.eq_nil_of_length_eq_zero (by omega)
    have hall : ∀ i, i < ops.size → listed.getD i false = true := fun i hi => by
      have := List.filter_eq_nil_iff.1 hnil i (by simpa using hi)
      rw [lget_flip (by rw [hls]; exact hi) false true]
      simpa using this
    refine ⟨?_, fin listed a w σ φ p hall hsz hV hpl hpe hR hn hσ hφ hdf⟩
    refine List.eq_nil_iff_forall_not_mem.2 fun j hj => ?_
    obtain ⟨h0, o, ho, _⟩ := mem_ready.1 hj
    have hjl := (Array.getElem?_eq_some_iff.1 ho).1
    have := hall j hjl
    rw [lget_flip (by rw [hls]; exact hjl) false true, h0] at this
    simp at this
  | succ fuel ih =>
    intro listed a w σ φ p hls hcnt hcl hsz hV hpl hpe hR hn hG hσ hφ hdf
    refine ⟨fun hnil => ?_, fun i hi => ?_⟩
    · refine fin listed a w σ φ p (fun i => ?_) hsz hV hpl hpe hR hn hσ hφ hdf
      induction i using Nat.strongRecOn with
      | _ i ihi =>
        intro hi
        cases hl : listed.getD i false with
        | true => rfl
        | false =>
          have hi' : ops[i]? = some ops[i] := by simp [hi]
          have : i ∈ Region.ready .any ops listed := mem_ready.2 ⟨by rw [lget_flip (by rw [hls]; exact hi) true false]; exact hl, ops[i], hi', fun e hea hbe => by
            have hlt := backOk_get hb i ops[i] (by simpa using hi') e hea hbe
            exact ihi e.on (by omega) (by omega)⟩
          rw [hnil] at this
          simp at this
    · obtain ⟨h0, o, ho, hall⟩ := mem_ready.1 hi
      have hil := (Array.getElem?_eq_some_iff.1 ho).1
      have hun : listed.getD i false = false := by rw [lget_flip (by rw [hls]; exact hil) false true]; exact h0
      have hol : ops.toList[i]? = some o := by simpa using ho
      have hmem : o ∈ ops.toList := List.mem_of_getElem? hol
      -- what stands ahead is done
      have closed : ∀ j, listed.getD j false = true → ∀ i, ((befores ops.toList []).getD j 0).testBit i = true → listed.getD i false = true :=
        befores_sound (D := fun j => listed.getD j false = true) ops.toList [] (fun j hj o' _ ho' => hcl j o' hj (by simpa using ho')) (fun j hlt => by simp at hlt)
      have ahead : ∀ i', ((befores ops.toList []).getD i 0).testBit i' = true → i' ≠ i → listed.getD i' false = true := fun i' hb' hne => by
        have := befores_sound (D := fun j => listed.getD j false = true ∨ j = i) ops.toList [] (fun j hj o' _ ho' e hea hbe => by
          rcases hj with hj | rfl
          · exact .inl (hcl j o' hj (by simpa using ho') e hea hbe)
          · have e' : o' = o := by have h1 : ops[j]? = some o' := by simpa using ho'
                                   rw [ho] at h1; exact (Option.some.inj h1).symm
            subst e'
            exact .inl (hall e hea hbe)) (fun j hlt => by simp at hlt) i (.inr rfl) i' hb'
        rcases this with h | h
        · exact h
        · exact absurd h hne
      have hslots : ∀ t ∈ slotsOf ops.toList o, V σ φ ((S i).fr.getD t .any) (a.tmps.getD t undef) := fun t ht => hV t i (by omega) fun i' oi' hi' hdst => by
          have hil' := (Array.getElem?_eq_some_iff.1 hi').1
          have hol' : ops.toList[i']? = some oi' := by simpa using hi'
          rcases Nat.lt_trichotomy i' i with hlt | rfl | hlt
          · refine ⟨fun _ => hlt, fun _ => ?_⟩
            rcases drawOk_get hd hol' hol hlt with ⟨h1, _⟩ | h1
            · exact absurd ht (h1 t hdst).1
            · exact ahead i' h1 (by omega)
          · exact ⟨fun h => by rw [hun] at h; simp at h, fun h => absurd h (Nat.lt_irrefl _)⟩
          · refine ⟨fun hl => ?_, fun h => by omega⟩
            rcases drawOk_get hd hol hol' hlt with ⟨_, h1⟩ | h1
            · exact absurd ht (h1 t hdst)
            · have := closed i' hl i h1
              rw [hun] at this; simp at this
      -- the step at the heap of now: what it answers, and the heap behind it
      have key : ∃ s1 : St, (stepD T ip ops o ⟨(S i).fr, hp p, false⟩).get = some s1 ∧ (∀ t, o.dst = some t → s1.fr.getD t .any = (S (i + 1)).fr.getD t .any) ∧ ∃ p', p' ≤ cntX ef ops.size ∧ s1.H = hp p' ∧
          (∀ e, e < ops.size → ef e = true → ((listed.setIfInBounds i true).getD e false = true ↔ cntX ef e < p')) ∧ p ≤ p' := by
        have hl' : ∀ j, j ≠ i → (listed.setIfInBounds i true).getD j false = listed.getD j false := fun j hj => by rw [lget, if_neg (fun h => hj h.1.symm)]
        have hli : (listed.setIfInBounds i true).getD i false = true := by rw [lget, if_pos ⟨rfl, by rw [hls]; exact hil⟩]
        cases hef : ef i with
        | true =>
          have hpi : p = cntX ef i := by
            have h1 : ¬ cntX ef i < p := fun h => by have := (hpe i hil hef).2 h; rw [hun] at this; simp at this
            rcases Nat.lt_or_ge p (cntX ef i) with hl | hl
            · obtain ⟨e, e1, e2, e3⟩ := cntX_hit hl
              have := (hpe e (by omega) e2).1 (ahead e (hord e i e1 hil e2 hef) (by omega))
              omega
            · omega
          have hS1 := hS i o ho
          rw [show S i = ⟨(S i).fr, hp p, false⟩ from by rw [hpi, ← hH i (by omega)]; exact (by cases hx : S i with | mk f h e => have := hE i; rw [hx] at this; simp at this; subst this; rfl)] at hS1
          refine ⟨_, hS1, fun t _ => rfl, p + 1, ?_, ?_, fun e he1 he2 => ?_, by omega⟩
          · have := cntX_lt hil hef; omega
          · show (S (i + 1)).H = _
            rw [hH (i + 1) hil, cntX, hef, hpi]; rfl
          · by_cases hei : e = i
            · subst hei; exact ⟨fun _ => by omega, fun _ => hli⟩
            · rw [hl' e hei, hpe e he1 he2]
              have hne : cntX ef e ≠ p := fun h => by
                rcases Nat.lt_or_ge e i with hl | hl
                · have := cntX_lt hl he2; omega
                · have := cntX_lt (show i < e by omega) hef; omega
              omega
        | false =>
          obtain ⟨s1, k1, k2, k3⟩ := hstab i o p ho hef hpl (fun e he1 he2 hb' => (hpe e he1 he2).1 (ahead e hb' (fun h => by subst h; rw [hef] at he2; simp at he2)))
            (fun e he1 he2 hb' => by
              rcases Nat.lt_or_ge (cntX ef e) p with hl | hl
              · have := closed e ((hpe e he1 he2).2 hl) i hb'
                rw [hun] at this; simp at this
              · exact hl)
          have hkk := ((stepD_keeps (T := T) (ip := ip) hmem).get k1).2.2 k2
          refine ⟨s1, k1, k3, p, hpl, hkk.2, fun e he1 he2 => ?_, Nat.le_refl _⟩
          have hei : e ≠ i := fun h => by subst h; rw [hef] at he2; simp at he2
          rw [hl' e hei]; exact hpe e he1 he2
      obtain ⟨s1, hS1, hdst1, p', hp1, hp2, hp3, hp4⟩ := key
      have hstep := stepD_ok (Q := Q) (κ := κ) (σ := σ) (φ := φ) (w := w) (a := a) (next := wpAny P .any ops Q fuel (listed.setIfInBounds i true)) hmem hS1 (by show (S i).fr.length = _; rw [hN i (by omega)]; exact hsz.symm)
        hslots hR hn hG ?_
      · unfold wpOp
        rw [ho]
        split at hstep
        · rename_i hw; simp only [hw, if_true]; exact .inl hstep
        · rename_i hw; simp only [hw]; exact hstep
      · intro a' w' σ' φ' e1 ep e2 e3 e4 e5 hR' hn'
        have e5 : ∀ t, o.dst = some t → V σ' φ' ((S (i + 1)).fr.getD t .any) (a'.tmps.getD t undef) := fun t ht => by rw [← hdst1 t ht]; exact e5 t ht
        have hφφ : φ.le φ' := fun k L hk => by
          have : k < (hp p).length := by
            rcases Nat.lt_or_ge k (hp p).length with hl | hl
            · exact hl
            · rw [hn k hl] at hk; simp at hk
          rw [ep k this]; exact hk
        have hl' : ∀ j, j ≠ i → (listed.setIfInBounds i true).getD j false = listed.getD j false := fun j hj => by rw [lget, if_neg (fun h => hj h.1.symm)]
        have hli : (listed.setIfInBounds i true).getD i false = true := by rw [lget, if_pos ⟨rfl, by rw [hls]; exact hil⟩]
        refine ih (listed.setIfInBounds i true) a' w' σ' φ' p' (by simpa using hls) ?_ ?_ (e3.trans hsz) ?_ hp1 hp3 (by rw [← hp2]; exact hR') (by rw [← hp2]; exact hn') (hG.mono e1) (Store.le_trans hσ e1)
          (fun k hk => (ep k (Nat.lt_of_lt_of_le hk (hm p hpl))).trans (hφ k hk)) (e2.trans hdf)
        · have := filter_lt (p := fun j => !(listed.setIfInBounds i true).getD j true) (q := fun j => !listed.getD j true) (l := List.range ops.size) (fun j _ hj => by
            rw [lget] at hj
            split at hj
            · simp at hj
            · exact hj) (x := i) (by simpa using hil) (by rw [h0]; rfl) (by rw [lget, if_pos ⟨rfl, by rw [hls]; exact hil⟩]; rfl)
          omega
        · intro j o' hj ho' e hea hbe
          by_cases hji : j = i
          · subst hji
            have e' : o' = o := by rw [ho] at ho'; exact (Option.some.inj ho').symm
            subst e'
            have h1 := hall e hea hbe
            by_cases hei : e.on = j
            · rw [hei]; exact hli
            · rw [hl' _ hei]; exact h1
          · rw [hl' j hji] at hj
            have h1 := hcl j o' hj ho' e hea hbe
            by_cases hei : e.on = i
            · rw [hei]; exact hli
            · rw [hl' _ hei]; exact h1
        · intro t k hk hag
          by_cases hdst : o.dst = some t
          · have hik : i < k := (hag i o ho hdst).1 hli
            have chain : ∀ d, i + 1 + d ≤ k → V σ' φ' ((S (i + 1 + d)).fr.getD t .any) (a'.tmps.getD t undef) := by
              intro d
              induction d with
              | zero => intro _; exact e5 t hdst
              | succ d ihd =>
                intro hle
                have hlt : i + 1 + d < ops.size := by omega
                have hok : ops[i + 1 + d]? = some ops[i + 1 + d] := by simp [hlt]
                have hokl : ops.toList[i + 1 + d]? = some ops[i + 1 + d] := by simpa using hok
                have hne : (ops[i + 1 + d]).dst ≠ some t := fun hd' => by
                  have h1 := (hag (i + 1 + d) _ hok hd').2 (by omega)
                  rw [hl' _ (by omega)] at h1
                  rcases drawOk_get hd hol hokl (by omega) with ⟨h2, _⟩ | h2
                  · exact (h2 t hdst).2 hd'
                  · have := closed _ h1 i h2
                    rw [hun] at this; simp at this
                exact (stepD_same (List.mem_of_getElem? hokl) (hS _ _ hok) hne σ' φ' _).2 (ihd (by omega))
            have := chain (k - (i + 1)) (by omega)
            rwa [show i + 1 + (k - (i + 1)) = k by omega] at this
          · rw [e4 t hdst]
            refine (hV t k hk fun i' oi' hi' hdst' => ?_).mono e1 hφφ
            have hne : i' ≠ i := fun h => by
              subst h
              rw [ho] at hi'
              have := Option.some.inj hi'
              subst this
              exact hdst hdst'
            rw [← hl' i' hne]
            exact hag i' oi' hi' hdst'

theorem stepE_len {ops : Array Oper} {o : Oper} {s s' : St} (h : (stepE T ip ops o s).get = some s') : s.H.length ≤ s'.H.length := by
  have done : ∀ {fr : List AV} {e : Bool} {nb : Nat} {get : Get} {ρ : Operand → AV}, ((opE T ip nb get ρ o.op).bind fun out => .leaf (doneE ⟨fr, s.H, e⟩ o out)).get = some s' → s.H.length ≤ s'.H.length := by
    intro fr e nb get ρ he
    obtain ⟨out, _, hd⟩ := Tree.get_bind_some he
    simp only [Tree.get, Option.some.injEq] at hd
    subst hd
    show _ ≤ (setH s.H out.upd ++ out.new.map some).length
    rw [List.length_append, setH_len]; omega
  have skip : ∀ {fr : List AV}, some (St.mk fr s.H s.eff) = some s' → s.H.length ≤ s'.H.length := by
    intro fr he
    have := Option.some.inj he
    subst this
    exact Nat.le_refl _
  unfold stepE at h
  split at h
  · exact done h
  · split at h
    · split at h
      · split at h
        · split at h
          · exact done h
          · exact skip h
        · exact skip h
        · rename_i b hb
          split at h
          · cases b with
            | true => exact done h
            | false => exact skip h
          · cases b with
            | true => exact skip h
            | false => exact done h
        · simp [Tree.get] at h
      · simp [Tree.get] at h
    · simp [Tree.get] at h
theorem stepD_len {ops : Array Oper} {o : Oper} {s s' : St} (h : (stepD T ip ops o s).get = some s') : s.H.length ≤ s'.H.length := by
  obtain ⟨s1, h1, rfl⟩ := stepD_get h
  have := stepE_len h1
  exact this
theorem condT_get {α : Type} {t : Tree α} (h : condT t = true) : ∃ a, t.get = some a := by
  induction t with
  | leaf a => exact ⟨a, rfl⟩
  | chk c t ih =>
    simp only [condT, Bool.and_eq_true] at h
    obtain ⟨a, ha⟩ := ih h.2
    exact ⟨a, by rw [h.1]; exact ha⟩
  | br c t e iht ihe =>
    cases c with
    | true => exact iht h
    | false => exact ihe h
  | fail => simp [condT] at h
mutual
theorem sameAV_eq : ∀ {x y : AV}, sameAV x y = true → x = y := by
  intro x y h
  unfold sameAV at h
  split at h
  all_goals first
    | rfl
    | (rw [sameL_eq h])
    | exact absurd h Bool.false_ne_true
    | (simp at h; obtain ⟨⟨h1, h2⟩, h3⟩ := h; rw [h1, h2, h3])
    | (simp at h; obtain ⟨h1, h2⟩ := h; rw [h1, h2])
    | (simp at h; rw [h])
theorem sameL_eq : ∀ {xs ys : List AV}, sameL xs ys = true → xs = ys
  | [], [], _ => rfl
  | x :: xs, y :: ys, h => by
    simp only [sameL, Bool.and_eq_true] at h
    rw [sameAV_eq h.1, sameL_eq h.2]
  | [], _ :: _, h => by simp [sameL] at h
  | _ :: _, [], h => by simp [sameL] at h
end
theorem stableE_ok {ops : Array Oper} {o : Oper} {fr : List AV} {H : Heap} {s : St} (h : stableE T ip ops o fr H s = true) :
    ∃ s1, (stepD T ip ops o ⟨fr, H, false⟩).get = some s1 ∧ s1.eff = false ∧ ∀ t, o.dst = some t → s1.fr.getD t .any = s.fr.getD t .any := by
  obtain ⟨a, ha⟩ := condT_get h
  obtain ⟨s1, h1, h2⟩ := Tree.get_bind_some ha
  refine ⟨s1, h1, ?_⟩
  split at h2
  · simp [Tree.get] at h2
  · rename_i he
    refine ⟨he, fun t ht => ?_⟩
    rw [ht] at h2
    simp only at h2
    cases hc : sameAV (s1.fr.getD t .any) (s.fr.getD t .any) with
    | true => exact sameAV_eq hc
    | false => rw [hc] at h2; simp [Tree.get] at h2
def IsX (S : Nat → St) (ef : Nat → Bool) (k : Nat) (R : List St) : Prop := ∀ (i : Nat) (s : St), R[i]? = some s → s = ⟨(S (k + i + 1)).fr, (S (k + i + 1)).H, ef (k + i)⟩
theorem IsX.head {S : Nat → St} {ef : Nat → Bool} {k : Nat} {s : St} {R : List St} (h : IsX S ef k (s :: R)) : s = ⟨(S (k + 1)).fr, (S (k + 1)).H, ef k⟩ := h 0 s rfl
theorem IsX.tail {S : Nat → St} {ef : Nat → Bool} {k : Nat} {s : St} {R : List St} (h : IsX S ef k (s :: R)) : IsX S ef (k + 1) R := fun i s' hs => by
  have := h (i + 1) s' (by simpa using hs)
  rw [this, show k + (i + 1) = k + 1 + i by omega]
theorem lastX_of {S : Nat → St} {ef : Nat → Bool} : ∀ {R : List St} {k : Nat}, IsX S ef k R → lastX (S k).fr (S k).H R = ((S (k + R.length)).fr, (S (k + R.length)).H)
  | [], k, _ => rfl
  | s :: R, k, h => by
    have := h.head
    subst this
    show lastX (S (k + 1)).fr (S (k + 1)).H R = _
    rw [lastX_of h.tail, List.length_cons, show k + 1 + R.length = k + (R.length + 1) by omega]
theorem writes_mem {S : Nat → St} {ef : Nat → Bool} : ∀ {R : List St} {k : Nat}, IsX S ef k R → ∀ e x, (e, x) ∈ writes k (cntX ef k) R ↔ (k ≤ e ∧ e < k + R.length ∧ ef e = true ∧ x = cntX ef e)
  | [], k, _, e, x => by simp only [writes, List.not_mem_nil, false_iff]; rintro ⟨h1, h2, _⟩; simp at h2; omega
  | s :: R, k, h, e, x => by
    have hs := h.head
    have hef : s.eff = ef k := by rw [hs]
    have ih := writes_mem h.tail e x
    cases he : ef k with
    | true =>
      rw [he] at hef
      have hc : cntX ef (k + 1) = cntX ef k + 1 := by rw [cntX, he]; rfl
      simp only [writes, hef, List.mem_cons, Prod.mk.injEq]
      rw [← hc, ih, List.length_cons]
      constructor
      · rintro (⟨rfl, rfl⟩ | ⟨h1, h2, h3, h4⟩)
        · exact ⟨Nat.le_refl _, by omega, he, rfl⟩
        · exact ⟨by omega, by omega, h3, h4⟩
      · rintro ⟨h1, h2, h3, h4⟩
        by_cases hk : e = k
        · subst hk; exact .inl ⟨rfl, h4⟩
        · exact .inr ⟨by omega, by omega, h3, h4⟩
    | false =>
      rw [he] at hef
      have hc : cntX ef (k + 1) = cntX ef k := by rw [cntX, he]; rfl
      simp only [writes, hef]
      rw [← hc, ih, List.length_cons]
      constructor
      · rintro ⟨h1, h2, h3, h4⟩
        exact ⟨by omega, by omega, h3, h4⟩
      · rintro ⟨h1, h2, h3, h4⟩
        have : e ≠ k := fun h => by subst h; rw [he] at h3; simp at h3
        exact ⟨by omega, by omega, h3, h4⟩
theorem ordX_of {S : Nat → St} {ef : Nat → Bool} {bef : List Nat} : ∀ {R : List St} {k : Nat}, IsX S ef k R → ordX bef (writes k (cntX ef k) R) = true → ∀ i j, k ≤ i → i < j → j < k + R.length → ef i = true → ef j = true → (bef.getD j 0).testBit i = true
  | [], k, _, _, i, j, h1, h2, h3, _, _ => by simp at h3; omega
  | s :: R, k, h, ho, i, j, h1, h2, h3, h4, h5 => by
    have hs := h.head
    have hef : s.eff = ef k := by rw [hs]
    rw [List.length_cons] at h3
    cases he : ef k with
    | true =>
      rw [he] at hef
      have hc : cntX ef (k + 1) = cntX ef k + 1 := by rw [cntX, he]; rfl
      simp only [writes, hef, ordX, Bool.and_eq_true, List.all_eq_true] at ho
      rw [← hc] at ho
      by_cases hk : i = k
      · subst hk
        exact ho.1 (j, cntX ef j) ((writes_mem h.tail j _).2 ⟨by omega, by omega, h5, rfl⟩)
      · exact ordX_of h.tail ho.2 i j (by omega) h2 (by omega) h4 h5
    | false =>
      rw [he] at hef
      have hc : cntX ef (k + 1) = cntX ef k := by rw [cntX, he]; rfl
      simp only [writes, hef] at ho
      rw [← hc] at ho
      have : i ≠ k := fun h => by subst h; rw [he] at h4; simp at h4
      exact ordX_of h.tail ho i j (by omega) h2 (by omega) h4 h5
theorem heapsX_get {S : Nat → St} {ef : Nat → Bool} (hq : ∀ k, ef k = false → (S (k + 1)).H = (S k).H) : ∀ {R : List St} {k : Nat}, IsX S ef k R → ∀ j, j ≤ R.length → (heapsX (S k).H R)[cntX ef (k + j) - cntX ef k]? = some (S (k + j)).H
  | [], k, _, j, hj => by
    obtain rfl : j = 0 := by simpa using hj
    simp [heapsX]
  | s :: R, k, h, j, hj => by
    have hs := h.head
    have hef : s.eff = ef k := by rw [hs]
    have hH : s.H = (S (k + 1)).H := by rw [hs]
    cases he : ef k with
    | true =>
      rw [he] at hef
      have hc : cntX ef (k + 1) = cntX ef k + 1 := by rw [cntX, he]; rfl
      simp only [heapsX, hef]
      cases j with
      | zero => simp
      | succ j =>
        have ih := heapsX_get hq h.tail j (by simpa using hj)
        have hmono := cntX_mono (ef := ef) (show k + 1 ≤ k + 1 + j by omega)
        rw [show k + (j + 1) = k + 1 + j by omega, show cntX ef (k + 1 + j) - cntX ef k = (cntX ef (k + 1 + j) - cntX ef (k + 1)) + 1 by omega, List.getElem?_cons_succ, hH]
        exact ih
    | false =>
      rw [he] at hef
      have hc : cntX ef (k + 1) = cntX ef k := by rw [cntX, he]; rfl
      simp only [heapsX, hef]
      rw [← hq k he]
      cases j with
      | zero =>
        have ih := heapsX_get hq h.tail 0 (Nat.zero_le _)
        simp only [Nat.add_zero, Nat.sub_self] at ih ⊢
        rw [ih, hq k he]
      | succ j =>
        have ih := heapsX_get hq h.tail j (by simpa using hj)
        rw [show k + (j + 1) = k + 1 + j by omega, ← hc]
        exact ih
theorem checksX_of {ops : Array Oper} {S : Nat → St} {ef : Nat → Bool} {bef : List Nat} {W : List (Nat × Nat)} {Hs : List Heap} : ∀ {R : List St} {l : List Oper} {k : Nat}, IsX S ef k R → R.length = l.length → checksX T ip ops bef W Hs k (cntX ef k) l (S k).fr R = true →
    ∀ j o p, l[j]? = some o → ef (k + j) = false → p < Hs.length → p ≠ cntX ef (k + j) → mayStand bef W (k + j) p = true → stableE T ip ops o (S (k + j)).fr (Hs.getD p []) ⟨(S (k + j + 1)).fr, (S (k + j + 1)).H, false⟩ = true
  | [], [], k, _, _, _, j, o, p, ho, _, _, _, _ => by simp at ho
  | [], _ :: _, k, _, hl, _, _, _, _, _, _, _, _, _ => by simp at hl
  | _ :: _, [], k, _, hl, _, _, _, _, _, _, _, _, _ => by simp at hl
  | s :: R, o' :: l, k, h, hl, hc, j, o, p, ho, he, hp, hne, hmay => by
    have hs := h.head
    have hef : s.eff = ef k := by rw [hs]
    have hfr : s.fr = (S (k + 1)).fr := by rw [hs]
    have hl' : R.length = l.length := by simpa using hl
    cases hk : ef k with
    | true =>
      rw [hk] at hef
      have hcn : cntX ef (k + 1) = cntX ef k + 1 := by rw [cntX, hk]; rfl
      simp only [checksX, hef] at hc
      rw [← hcn, hfr] at hc
      cases j with
      | zero => rw [Nat.add_zero, hk] at he; simp at he
      | succ j =>
        have := checksX_of h.tail hl' hc j o p (by simpa using ho) (by rw [show k + 1 + j = k + (j + 1) by omega]; exact he) hp (by rw [show k + 1 + j = k + (j + 1) by omega]; exact hne) (by rw [show k + 1 + j = k + (j + 1) by omega]; exact hmay)
        rwa [show k + 1 + j = k + (j + 1) by omega] at this
    | false =>
      rw [hk] at hef
      have hcn : cntX ef (k + 1) = cntX ef k := by rw [cntX, hk]; rfl
      simp only [checksX, hef, Bool.and_eq_true, List.all_eq_true] at hc
      rw [← hcn, hfr] at hc
      cases j with
      | zero =>
        simp only [List.getElem?_cons_zero, Option.some.injEq] at ho
        subst ho
        have := hc.1 p (by simpa using hp)
        rw [Nat.add_zero] at hne hmay ⊢
        have hb : Nat.beq p (cntX ef (k + 1)) = false := by
          cases hbb : Nat.beq p (cntX ef (k + 1)) with
          | false => rfl
          | true => exact absurd ((Nat.eq_of_beq_eq_true hbb).trans hcn) hne
        rw [hb, hmay] at this
        simp only [Bool.not_true, Bool.or_self] at this
        have e : s = ⟨(S (k + 1)).fr, (S (k + 1)).H, false⟩ := by rw [hs, hk]
        rw [← e]
        exact this
      | succ j =>
        have := checksX_of h.tail hl' hc.2 j o p (by simpa using ho) (by rw [show k + 1 + j = k + (j + 1) by omega]; exact he) hp (by rw [show k + 1 + j = k + (j + 1) by omega]; exact hne) (by rw [show k + 1 + j = k + (j + 1) by omega]; exact hmay)
        rwa [show k + 1 + j = k + (j + 1) by omega] at this

theorem drawX_ok {ops : Array Oper} {id : Nat} {fr : List AV} {H : Heap} {s : St} {Rs : List St} {a : Act} {Q : Exit → Act → World → Prop} (hd : drawOk ops.toList = true) (hb : backOk 0 ops.toList = true) (hmix : P.follows .mixedOrders = true)
    (k1 : (stepsX T ip ops ops.toList fr H).get = some Rs) (k2 : (endX T ip ops fr H Rs).get = some s) (hI : Inv κ m σ φ fr H a w) (hG : Globals Γ σ)
    (hQ : ∀ a' w' σ' φ', σ.le σ' → (∀ k, k < m → φ' k = φ k) → a'.defers = a.defers → Inv κ m σ' φ' s.fr s.H a' w' → Q .normal a' w') : (Code.region id ops true).wp P Q a w := by
  first
  | skip
    obtain ⟨S, ef, j1, j2, j3, j4, j5⟩ := stepsX_states ops.toList _ _ _ k1
    have hsz : ops.toList.length = ops.size := by simp
    rw [hsz] at j4
    have hS : ∀ k o, ops[k]? = some o → (stepD T ip ops o (S k)).get = some ⟨(S (k + 1)).fr, (S (k + 1)).H, ef k⟩ := fun k o ho => j3 k o (by simpa using ho)
    have hX : IsX S ef 0 Rs := fun i s hs => by rw [Nat.zero_add]; exact j5 i s hs
    have hkeep : ∀ k, k < ops.size → Keeps (touched ops.toList) (S k) ⟨(S (k + 1)).fr, (S (k + 1)).H, ef k⟩ := fun k hk => by
      have hk' : ops[k]? = some ops[k] := by simp [hk]
      exact (stepD_keeps (List.mem_of_getElem? (show ops.toList[k]? = some ops[k] by simpa using hk'))).get (hS k _ hk')
    -- behind the last one nothing is told: let the rest stand
    let ef' : Nat → Bool := fun k => decide (k < ops.size) && ef k
    let S' : Nat → St := fun k => if k ≤ ops.size then S k else S ops.size
    have eS : ∀ k, k ≤ ops.size → S' k = S k := fun k hk => if_pos hk
    have eE : ∀ k, k < ops.size → ef' k = ef k := fun k hk => by show (decide (k < ops.size) && ef k) = ef k; rw [decide_eq_true hk]; rfl
    have hX' : IsX S' ef' 0 Rs := fun i s hs => by
      have hi : i < ops.size := by rw [← j4]; exact (List.getElem?_eq_some_iff.1 hs).1
      rw [Nat.zero_add, eS _ (by omega), eE _ hi]; exact j5 i s hs
    have hS' : ∀ k o, ops[k]? = some o → (stepD T ip ops o (S' k)).get = some ⟨(S' (k + 1)).fr, (S' (k + 1)).H, ef' k⟩ := fun k o ho => by
      have hk := (Array.getElem?_eq_some_iff.1 ho).1
      rw [eS k (by omega), eS (k + 1) hk, eE k hk]; exact hS k o ho
    have hE' : ∀ k, (S' k).eff = false := fun k => by
      show (if k ≤ ops.size then S k else S ops.size).eff = false
      split <;> exact j2 _
    have hq : ∀ k, ef' k = false → (S' (k + 1)).H = (S' k).H := fun k he => by
      by_cases hk : k < ops.size
      · rw [eS k (by omega), eS (k + 1) hk]
        rw [eE k hk] at he
        exact ((hkeep k hk).2.2 he).2
      · show (if k + 1 ≤ ops.size then S (k + 1) else S ops.size).H = (if k ≤ ops.size then S k else S ops.size).H
        rw [if_neg (by omega)]
        split
        · rw [show k = ops.size by omega]
        · rfl
    have h0 : S' 0 = ⟨fr, H, false⟩ := by rw [eS 0 (Nat.zero_le _)]; exact j1
    have hlast := lastX_of hX'
    rw [h0, Nat.zero_add, j4] at hlast
    have hhp : ∀ k, k ≤ ops.size → (heapsX H Rs)[cntX ef' k]? = some (S' k).H := fun k hk => by
      have := heapsX_get hq hX' k (by omega)
      rw [h0, Nat.zero_add] at this
      simpa [cntX] using this
    have hHk : ∀ k, k ≤ ops.size → (S' k).H = (heapsX H Rs).getD (cntX ef' k) [] := fun k hk => by rw [List.getD_eq_getElem?_getD, hhp k hk]; rfl
    have hNk : ∀ k, k ≤ ops.size → (S' k).fr.length = fr.length ∧ m ≤ (S' k).H.length := by
      intro k
      induction k with
      | zero => intro _; rw [h0]; exact ⟨rfl, hI.len⟩
      | succ k ih =>
        intro hk
        obtain ⟨i1, i2⟩ := ih (by omega)
        have hk1 := hkeep k (by omega)
        have hok : ops[k]? = some ops[k] := by simp [show k < ops.size from hk]
        have hln := stepD_len (hS' k _ hok)
        rw [eS k (by omega)] at i1 i2 hln
        rw [eS (k + 1) hk] at hln ⊢
        exact ⟨hk1.1.trans i1, Nat.le_trans i2 hln⟩
    have hat : ∀ p, p ≤ cntX ef' ops.size → ∃ k, k ≤ ops.size ∧ cntX ef' k = p := fun p hp => by
      rcases Nat.lt_or_ge p (cntX ef' ops.size) with hl | hl
      · obtain ⟨e, e1, _, e3⟩ := cntX_hit hl
        exact ⟨e, by omega, e3⟩
      · exact ⟨ops.size, Nat.le_refl _, by omega⟩
    have hW : ∀ e x, (e, x) ∈ writes 0 0 Rs ↔ (e < ops.size ∧ ef' e = true ∧ x = cntX ef' e) := fun e x => by
      have := writes_mem hX' e x
      rw [j4] at this
      simpa [cntX] using this
    -- what the end tells
    have hend : s.fr = (S' ops.size).fr ∧ s.H = (S' ops.size).H ∧ (∀ i j, i < j → j < ops.size → ef' i = true → ef' j = true → ((befores ops.toList []).getD j 0).testBit i = true) ∧
        (∀ k o p, ops[k]? = some o → ef' k = false → p ≤ cntX ef' ops.size → p ≠ cntX ef' k → mayStand (befores ops.toList []) (writes 0 0 Rs) k p = true →
          stableE T ip ops o (S' k).fr ((heapsX H Rs).getD p []) ⟨(S' (k + 1)).fr, (S' (k + 1)).H, false⟩ = true) := by
      unfold endX at k2
      split at k2
      · rename_i hw
        have hno : ∀ e, e < ops.size → ef' e = false := fun e he => by
          cases hef : ef' e with
          | false => rfl
          | true => have := (hW e _).2 ⟨he, hef, rfl⟩; rw [hw] at this; simp at this
        have hc0 : cntX ef' ops.size = 0 := by
          rcases Nat.eq_zero_or_pos (cntX ef' ops.size) with h | h
          · exact h
          · obtain ⟨e, e1, e2, _⟩ := cntX_hit h
            rw [hno e e1] at e2; simp at e2
        simp only [Tree.get, Option.some.injEq] at k2
        subst k2
        refine ⟨by rw [hlast], by rw [hlast], fun i j _ hj hi _ => by rw [hno i (by omega)] at hi; simp at hi, fun k o p ho _ hp hne _ => ?_⟩
        have hk := (Array.getElem?_eq_some_iff.1 ho).1
        have := cntX_mono (ef := ef') (show k ≤ ops.size by omega)
        exact absurd (by omega) hne
      · obtain ⟨hcc, hl⟩ := Tree.chkX_get k2
        have := Tree.leafX_get hl
        subst this
        simp only [Bool.and_eq_true] at hcc
        refine ⟨by rw [hlast], by rw [hlast], fun i j hij hj hi hj' => ?_, fun k o p ho he hp hne hmay => ?_⟩
        · exact ordX_of (k := 0) hX' (by simpa [cntX] using hcc.1) i j (Nat.zero_le _) hij (by rw [Nat.zero_add, j4]; exact hj) hi hj'
        · have hlen : p < (heapsX H Rs).length := by
            obtain ⟨k', hk', e⟩ := hat p hp
            have := hhp k' hk'
            rw [e] at this
            exact (List.getElem?_eq_some_iff.1 this).1
          have hl2 : Rs.length = ops.toList.length := by rw [j4, hsz]
          have := checksX_of (k := 0) (T := T) (ip := ip) (ops := ops) (bef := befores ops.toList []) (W := writes 0 0 Rs) (Hs := heapsX H Rs) hX' hl2 (by rw [h0]; simpa [cntX] using hcc.2) k o p (by simpa using ho) (by rw [Nat.zero_add]; exact he) hlen (by rw [Nat.zero_add]; exact hne) (by rw [Nat.zero_add]; exact hmay)
          rwa [Nat.zero_add] at this
    obtain ⟨hf1, hf2, hord, hst⟩ := hend
    refine wp_region_any hmix ?_
    refine any_ok (κ := κ) (m := m) (S := S') (ef := ef') (hp := fun p => (heapsX H Rs).getD p []) (N := fr.length) (σ0 := σ) (φ0 := φ) (a0 := a) hd hb hS' hE' hHk (fun k hk => (hNk k hk).1) (fun p hp => ?_) hord (fun k o p ho he hp hlo hhi => ?_) (fun a' w' σ' φ' e1 e2 e3 hI' => hQ a' w' σ' φ' e1 e2 e3 (by rw [hf1, hf2]; exact hI'))
      ops.size _ a _ σ φ 0 (by simp) ?_ ?_ hI.F.1.symm ?_ (Nat.zero_le _) ?_ ?_ ?_ hG (Store.le_refl σ) (fun _ _ => rfl) rfl
    · obtain ⟨k, hk, e⟩ := hat p hp
      show m ≤ ((heapsX H Rs).getD p []).length
      rw [← e, ← hHk k hk]
      exact (hNk k hk).2
    · have hk := (Array.getElem?_eq_some_iff.1 ho).1
      by_cases hne : p = cntX ef' k
      · refine ⟨⟨(S' (k + 1)).fr, (S' (k + 1)).H, ef' k⟩, ?_, he, fun t _ => rfl⟩
        · have := hS' k o ho
          have e2 : S' k = ⟨(S' k).fr, (heapsX H Rs).getD p [], false⟩ := by
            rw [hne, ← hHk k (by omega)]
            have h3 := hE' k
            cases hx : S' k with
            | mk f h e => rw [hx] at h3; simp only at h3; subst h3; rfl
          rw [e2] at this
          exact this
      · exact stableE_ok (hst k o p ho he hp hne (List.all_eq_true.2 fun e hem => by
          obtain ⟨w1, w2, w3⟩ := (hW e.1 e.2).1 hem
          simp only [Bool.and_eq_true, Bool.or_eq_true, Bool.not_eq_true']
          refine ⟨?_, ?_⟩
          · cases hbit : ((befores ops.toList []).getD k 0).testBit e.1 with
            | false => exact .inl rfl
            | true => refine .inr ?_; have := hlo e.1 w1 w2 hbit; rw [w3]; exact Nat.ble_eq_true_of_le this
          · cases hbit : ((befores ops.toList []).getD e.1 0).testBit k with
            | false => exact .inl rfl
            | true => refine .inr ?_; have := hhi e.1 w1 w2 hbit; rw [w3]; exact Nat.ble_eq_true_of_le this))
    · exact Nat.le_trans (List.length_filter_le _ _) (by simp)
    · intro j o hj
      rw [Array.getD_eq_getD_getElem?, Array.getElem?_replicate] at hj
      split at hj <;> simp at hj
    · intro t k hk hag
      -- nothing is done: no writer stands ahead of k
      have : ∀ d, d ≤ k → V σ φ ((S' d).fr.getD t .any) (a.tmps.getD t undef) := by
        intro d
        induction d with
        | zero => intro _; rw [h0]; exact hI.F.2 t
        | succ d ih =>
          intro hd'
          have hlt : d < ops.size := by omega
          have hok : ops[d]? = some ops[d] := by simp [hlt]
          have hne : (ops[d]).dst ≠ some t := fun hdst => by
            have := (hag d _ hok hdst).2 (by omega)
            rw [Array.getD_eq_getD_getElem?, Array.getElem?_replicate] at this
            split at this <;> simp at this
          exact (stepD_same (List.mem_of_getElem? (show ops.toList[d]? = some ops[d] by simpa using hok)) (hS' d _ hok) hne σ φ _).2 (ih (by omega))
      exact this k (Nat.le_refl _)
    · intro e he _
      rw [Array.getD_eq_getD_getElem?, Array.getElem?_replicate]
      constructor
      · intro h; split at h <;> simp at h
      · intro h; omega
    · show R κ σ φ (getH ((heapsX H Rs).getD 0 [])) _
      rw [show (0 : Nat) = cntX ef' 0 from rfl, ← hHk 0 (Nat.zero_le _), h0]
      exact hI.R.drew rfl rfl rfl rfl
    · show ∀ k, ((heapsX H Rs).getD 0 []).length ≤ k → φ k = none
      rw [show (0 : Nat) = cntX ef' 0 from rfl, ← hHk 0 (Nat.zero_le _), h0]
      exact hI.none
end
end Go.Eng

namespace Go.Eng
open Go

section
variable {P : Program} {Γ : Nat → AV} {κ : Ctx} {m : Nat} {σ : Store} {φ : Places} {w : World} {ip : Bool} {T : List (CT P Γ)}
theorem V0.noIds {x : AV} {v : Value} (h : V0 σ x v) : x.ids = [] := by cases h <;> simp [AV.ids]
theorem avOf_noIds {v : Value} : (avOf v).ids = [] := by
  unfold avOf
  split
  · rename_i cs
    simp only [AV.ids]
    generalize cs.toList = l
    induction l with
    | nil => rfl
    | cons a l ih => simp [AV.idsL, AV.ids, ih]
  · rfl
  · rfl
theorem opd_ids {fr : List AV} (hG : Globals Γ σ) {F : List Nat} (hf : ∀ i ∈ AV.idsL fr, i ∈ F) (x : Operand) : ∀ i ∈ (opd Γ fr x).ids, i ∈ F := by
  intro i hi
  cases x with
  | tmp t =>
    simp only [opd] at hi
    rw [List.getD_eq_getElem?_getD] at hi
    cases ht : fr[t]? with
    | none => rw [ht] at hi; simp [AV.ids] at hi
    | some c => rw [ht] at hi; exact hf i (idsL_mem fr t c ht i hi)
  | const v => simp only [opd] at hi; rw [avOf_noIds] at hi; simp at hi
  | global g => simp only [opd] at hi; rw [(hG g).noIds] at hi; simp at hi
  | func f => simp [opd, AV.ids, AV.idsL] at hi
theorem set_ids {fr : List AV} {t : Nat} {v : Value} : ∀ i ∈ AV.idsL (fr.set t (.v v)), i ∈ AV.idsL fr := by
  intro i hi
  induction fr generalizing t with
  | nil => exact hi
  | cons c fr ih =>
    cases t with
    | zero => simp only [List.set_cons_zero, AV.idsL, AV.ids, List.nil_append] at hi; simp [AV.idsL, hi]
    | succ t =>
      simp only [List.set_cons_succ, AV.idsL, List.mem_append] at hi ⊢
      rcases hi with hi | hi
      · exact .inl hi
      · exact .inr (ih hi)
theorem updGs_in : ∀ {us : List (Nat × Option Blk)} {g g' : Get} {k : Nat}, k ∈ us.map (·.1) → updGs g us k = updGs g' us k := by
  intro us
  induction us with
  | nil => intro g g' k h; simp at h
  | cons u us ih =>
    obtain ⟨i, b⟩ := u
    intro g g' k h
    simp only [updGs]
    by_cases hm : k ∈ us.map (·.1)
    · exact ih hm
    · have : k = i := by simpa [hm] using h
      subst this
      have out : ∀ {us : List (Nat × Option Blk)} {g : Get}, k ∉ us.map (·.1) → updGs g us k = g k := by
        intro us
        induction us with
        | nil => intro g _; rfl
        | cons u us ih =>
          obtain ⟨j, b⟩ := u
          intro g h
          simp only [List.map_cons, List.mem_cons, not_or] at h
          simp only [updGs]
          rw [ih h.2]
          simp [updG, h.1]
      rw [out hm, out hm]
      simp [updG]
theorem updGs_out : ∀ {us : List (Nat × Option Blk)} {g : Get} {k : Nat}, k ∉ us.map (·.1) → updGs g us k = g k := by
  intro us
  induction us with
  | nil => intro g k _; rfl
  | cons u us ih =>
    obtain ⟨j, b⟩ := u
    intro g k h
    simp only [List.map_cons, List.mem_cons, not_or] at h
    simp only [updGs]
    rw [ih h.2]
    simp [updG, h.1]
theorem mem_wrote {nb : Nat} {out : OpOut} {b : Nat} : b ∈ wroteE nb out ↔ b ∈ out.upd.map (·.1) ∨ (nb ≤ b ∧ b < nb + out.new.length) := by
  unfold wroteE
  rw [List.mem_append, List.mem_range'_1]
def KeepsW (H : Heap) (H' : Heap) (W : List Nat) : Prop := (∀ b, b ∉ W → getH H' b = getH H b) ∧ H.length ≤ H'.length ∧ (∀ b, H.length ≤ b → b < H'.length → b ∈ W)
theorem KeepsW.refl (H : Heap) : KeepsW H H [] := ⟨fun _ _ => rfl, Nat.le_refl _, fun b h1 h2 => by omega⟩
theorem doneE_H {s : St} {o : Oper} {out : OpOut} {nb : Nat} {ρ : Operand → AV} (hop : (opE T ip nb (getH s.H) ρ o.op).get = some out) : getH (doneE s o out).H = newGs (updGs (getH s.H) out.upd) s.H.length out.new ∧ (doneE s o out).H.length = s.H.length + out.new.length := by
  have hupd := opE_upd hop
  refine ⟨?_, ?_⟩
  · funext k
    have hl : s.H.length = (setH s.H out.upd).length := (setH_len _ _).symm
    show getH (setH s.H out.upd ++ out.new.map some) k = _
    rw [getH_append, ← hl]
    have : getH (setH s.H out.upd) = updGs (getH s.H) out.upd := by
      funext j; exact getH_set _ _ _ fun u hu => getH_lt (hupd u hu)
    rw [this]
  · show (setH s.H out.upd ++ out.new.map some).length = _
    rw [List.length_append, setH_len]; simp
theorem doneE_keepsW {s : St} {o : Oper} {out : OpOut} {nb : Nat} {ρ : Operand → AV} (hop : (opE T ip nb (getH s.H) ρ o.op).get = some out) : KeepsW s.H (doneE s o out).H (wroteE s.H.length out) := by
  obtain ⟨h1, h2⟩ := doneE_H (s := s) (o := o) hop
  refine ⟨fun b hb => ?_, by omega, fun b hb1 hb2 => mem_wrote.2 (.inr ⟨hb1, by omega⟩)⟩
  rw [mem_wrote, not_or] at hb
  rw [h1, newGs_get, if_neg hb.2, updGs_out hb.1]
theorem stepW_keeps {ops : Array Oper} {o : Oper} {s : St} {r : St × List Nat} (h : (stepW T ip ops o s).get = some r) : KeepsW s.H r.1.H r.2 := by
  have done : ∀ {fr : List AV} {e : Bool} {ρ : Operand → AV}, ((opE T ip s.H.length (getH s.H) ρ o.op).bind fun out => .leaf (doneE ⟨fr, s.H, e⟩ o out, wroteE s.H.length out)).get = some r → KeepsW s.H r.1.H r.2 := by
    intro fr e ρ he
    obtain ⟨out, ho, hd⟩ := Tree.get_bind_some he
    simp only [Tree.get, Option.some.injEq] at hd
    subst hd
    exact doneE_keepsW (s := ⟨fr, s.H, e⟩) ho
  have skip : ∀ {fr : List AV}, some ((St.mk fr s.H s.eff, []) : St × List Nat) = some r → KeepsW s.H r.1.H r.2 := by
    intro fr he
    have := Option.some.inj he
    subst this
    exact .refl _
  unfold stepW at h
  split at h
  · exact done h
  · split at h
    · split at h
      · split at h
        · split at h
          · exact done h
          · exact skip h
        · exact skip h
        · rename_i b hb
          split at h
          · cases b with
            | true => exact done h
            | false => exact skip h
          · cases b with
            | true => exact skip h
            | false => exact done h
        · simp [Tree.get] at h
      · simp [Tree.get] at h
    · simp [Tree.get] at h
theorem opE_flat {nb : Nat} {get get' : Get} {ρ : Operand → AV} {o : Op} (h : flatOp o = true) : opE T ip nb get' ρ o = opE T ip nb get ρ o := by
  cases o <;> first | rfl | (simp [flatOp] at h)
theorem stepV_get {ops : Array Oper} {o : Oper} {s : St} {r : StW} (h : (stepV T ip ops o s).get = some r) : ∃ s1, (stepW T ip ops o ⟨maskF (slotsOf ops.toList o) 0 s.fr, s.H, s.eff⟩).get = some (s1, r.w) ∧ r.s = ⟨unmaskF (slotsOf ops.toList o ++ o.dst.toList) 0 s.fr s1.fr, s1.H, s1.eff⟩ ∧ r.f = footE s.H o.op (maskF (slotsOf ops.toList o) 0 s.fr) := by
  obtain ⟨s1, h1, h2⟩ := Tree.get_bind_some h
  simp only [Tree.get, Option.some.injEq] at h2
  subst h2
  exact ⟨s1.1, h1, rfl, rfl⟩
theorem stepV_keeps {ops : Array Oper} {o : Oper} {s : St} {r : StW} (h : (stepV T ip ops o s).get = some r) : KeepsW s.H r.s.H r.w := by
  obtain ⟨s1, h1, h2, h3⟩ := stepV_get h
  rw [h2]
  exact stepW_keeps h1
theorem stepV_D {ops : Array Oper} {o : Oper} {s : St} {r : StW} (h : (stepV T ip ops o s).get = some r) : (stepD T ip ops o s).get = some r.s := by
  rw [← stepV_map, Tree.get_bind, h]; rfl
theorem stepV_ok {ops : Array Oper} {o : Oper} (ho : o ∈ ops.toList) {s : St} {r : StW} {G : Get} {a : Act} {Q : Exit → Act → World → Prop} {next : Act → World → Prop} (h : (stepV T ip ops o s).get = some r)
    (hlen : s.fr.length = a.tmps.size) (hF : ∀ t ∈ slotsOf ops.toList o, V σ φ (s.fr.getD t .any) (a.tmps.getD t undef)) (hR : R κ σ φ G w)
    (hsame : ∀ b, (∀ F, r.f = some F → b ∈ F) → G b = getH s.H b) (hn : ∀ k, s.H.length ≤ k → k < r.s.H.length → φ k = none) (hG : Globals Γ σ)
    (hK : ∀ a' w' σ' φ' G', σ.le σ' → φ.le φ' → (∀ k, φ k = none → (k < s.H.length ∨ r.s.H.length ≤ k) → φ' k = none) → a'.defers = a.defers → a'.tmps.size = a.tmps.size →
      (∀ t, o.dst ≠ some t → a'.tmps.getD t undef = a.tmps.getD t undef) → (∀ t, o.dst = some t → V σ' φ' (r.s.fr.getD t .any) (a'.tmps.getD t undef)) →
      R κ σ' φ' G' w' → (∀ b, b ∈ r.w → G' b = getH r.s.H b) → (∀ b, b ∉ r.w → G' b = G b) → next a' w') :
    if Region.wanted o (yielded ops a.tmps) then o.wp P a w next Q else next (a.put o.dst undef) w := by
  obtain ⟨s1, h1, h2, h3⟩ := stepV_get h
  have hkk := stepD_keeps (T := T) (ip := ip) ho |>.get (stepV_D h)
  have hl : s1.fr.length = s.fr.length := by
    have := hkk.1
    rw [h2] at this
    have e : (stepE T ip ops o ⟨maskF (slotsOf ops.toList o) 0 s.fr, s.H, s.eff⟩).get = some s1 := by rw [← stepW_map, Tree.get_bind, h1]; rfl
    exact ((step_keeps ho).get e).1.trans maskF_len
  have hFR : FR σ φ (maskF (slotsOf ops.toList o) 0 s.fr) a := ⟨by rw [maskF_len]; exact hlen, fun t => by
    rw [maskF_get, Nat.zero_add]
    split
    · rename_i hm'; exact hF t (memN_iff.1 hm')
    · exact V_any _⟩
  have hH1 : r.s.H = s1.H := by rw [h2]
  have hfr1 : ∀ {σ' : Store} {φ' : Places} {a' : Act}, FR σ' φ' s1.fr a' → ∀ t, o.dst = some t → V σ' φ' (r.s.fr.getD t .any) (a'.tmps.getD t undef) := fun {σ' φ' a'} hfr t ht => by
    rw [h2]
    show V σ' φ' ((unmaskF _ 0 s.fr s1.fr).getD t .any) _
    rw [unmaskF_get hl, Nat.zero_add]
    have : memN t (slotsOf ops.toList o ++ o.dst.toList) = true := memN_iff.2 (List.mem_append_right _ (by rw [ht]; simp))
    rw [this]
    exact hfr.2 t
  -- what an operation answers here
  have hloc : ∀ {fr1 : List AV}, (∀ i ∈ AV.idsL fr1, i ∈ AV.idsL (maskF (slotsOf ops.toList o) 0 s.fr)) → opE T ip s.H.length G (opd Γ fr1) o.op = opE T ip s.H.length (getH s.H) (opd Γ fr1) o.op := by
    intro fr1 hids
    cases hf : r.f with
    | none =>
      have : G = getH s.H := funext fun b => hsame b fun F hF' => by rw [hf] at hF'; simp at hF'
      rw [this]
    | some F =>
      have hreach : footE s.H o.op (maskF (slotsOf ops.toList o) 0 s.fr) = some F := by rw [← h3, hf]
      have hsm : ∀ i ∈ F, G i = getH s.H i := fun i hi => hsame i fun F' hF' => by rw [hf] at hF'; cases hF'; exact hi
      cases hfl : flatOp o.op with
      | true => exact opE_flat hfl
      | false =>
      unfold footE at hreach
      rw [hfl] at hreach
      cases hdp : deepOp o.op with
      | true =>
        rw [hdp] at hreach
        obtain ⟨_, _, r1, r2, r3⟩ := reach_ok _ _ _ _ hreach (by simp) (fun i hi => by simp at hi) (fun i hi => by simp at hi)
        exact opE_local (get := getH s.H) (F := F) ⟨hsm⟩ (fun _ => ⟨⟨hsm⟩, r3⟩) (opd_ids hG fun i hi => r1 i (hids i hi))
      | false =>
        rw [hdp] at hreach
        simp only [Option.some.injEq] at hreach
        exact opE_local (get := getH s.H) (F := F) ⟨hsm⟩ (fun hq => by rw [hdp] at hq; simp at hq) (opd_ids hG fun i hi => by rw [← hreach]; exact hids i hi)
  obtain ⟨H, eff⟩ : ∃ x : Heap × Bool, x = (s.H, s.eff) := ⟨_, rfl⟩
  have skip : ∀ {fr1 : List AV}, FR σ φ fr1 a → s1 = ⟨putF fr1 o.dst (.v undef), s.H, s.eff⟩ → r.w = [] → next (a.put o.dst undef) w := fun {fr1} hF1 e ew => by
    refine hK _ w σ φ G (Store.le_refl σ) (Places.le_refl φ) (fun k hk _ => hk) put_defers ?_ (fun t ht => put_other ht) (hfr1 ?_) hR (fun b hb => by rw [ew] at hb; simp at hb) (fun _ _ => rfl)
    · rw [← hlen, ← hl, e]; exact ((hF1.put o.dst (V_v _)).1).symm
    · rw [e]; exact hF1.put o.dst (V_v _)
  have done : ∀ {fr1 : List AV} {e : Bool}, FR σ φ fr1 a → (∀ i ∈ AV.idsL fr1, i ∈ AV.idsL (maskF (slotsOf ops.toList o) 0 s.fr)) →
      ((opE T ip s.H.length (getH s.H) (opd Γ fr1) o.op).bind fun out => .leaf (doneE ⟨fr1, s.H, e⟩ o out, wroteE s.H.length out)).get = some (s1, r.w) → o.wp P a w next Q := fun {fr1 e} hF1 hids he => by
    obtain ⟨out, hop, hd⟩ := Tree.get_bind_some he
    simp only [Tree.get, Option.some.injEq, Prod.mk.injEq] at hd
    obtain ⟨hd1, hd2⟩ := hd
    obtain ⟨g1, g2⟩ := doneE_H (s := ⟨fr1, s.H, e⟩) (o := o) hop
    rw [hd1] at g1 g2
    have hlen' : r.s.H.length = s.H.length + out.new.length := by rw [hH1]; exact g2
    refine opE_ok (get := G) (nb := s.H.length) (out := out) (by rw [hloc hids]; exact hop) (fun x => hF1.eval hG x) hR hG (fun k k1 k2 => hn k k1 (by omega)) ?_
    rintro v w' ⟨σ', φ', p1, p2, p3, p4, p5⟩
    refine hK _ w' σ' φ' _ p1 p2 (fun k hk hor => p3 k hk (by rcases hor with h | h; exact .inl h; exact .inr (by omega))) put_defers ?_ (fun t ht => put_other ht) (hfr1 ?_) p5 (fun b hb => ?_) (fun b hb => ?_)
    · have := ((hF1.mono p1 p2).put o.dst p4).1
      rw [← this]
      show _ = _
      rw [show (putF fr1 o.dst out.val).length = s1.fr.length by rw [← hd1]; rfl, hl, hlen]
    · rw [← hd1]; exact (hF1.mono p1 p2).put o.dst p4
    · rw [hH1, g1, newGs_get, newGs_get]
      rw [← hd2, mem_wrote] at hb
      split
      · rfl
      · rename_i hnn
        rcases hb with hb | hb
        · exact updGs_in hb
        · exact absurd hb hnn
    · rw [← hd2, mem_wrote, not_or] at hb
      rw [newGs_get, if_neg hb.2, updGs_out hb.1]
  unfold stepW at h1
  split at h1
  · rename_i hg
    simp only [Region.wanted, hg, if_true]
    exact done hFR (fun i hi => hi) h1
  · rename_i j want hg
    split at h1
    · rename_i oj hj
      split at h1
      · rename_i t ht
        have hvt := hFR.2 t
        split at h1
        · rename_i b hb
          simp only at hb
          rw [hb] at hvt
          have hy := yielded_of hj ht hvt.v_eq
          split at h1
          · rename_i hw
            have hw' : b = want := by simpa using hw
            simp only [Region.wanted, hg, hy, hw', beq_self_eq_true, if_true]
            exact done hFR (fun i hi => hi) h1
          · rename_i hw
            simp only [Tree.get, Option.some.injEq, Prod.mk.injEq] at h1
            have hw' : (some b == some want) = false := by simpa using hw
            simp only [Region.wanted, hg, hy, hw', Bool.false_eq_true, if_false]
            exact skip hFR h1.1.symm h1.2.symm
        · rename_i ys hb
          simp only at hb
          rw [hb] at hvt
          have hy := yielded_none hj ht hvt.v_eq
          simp only [Tree.get, Option.some.injEq, Prod.mk.injEq] at h1
          simp only [Region.wanted, hg, hy, show ((none : Option Bool) == some want) = false from rfl, Bool.false_eq_true, if_false]
          exact skip hFR h1.1.symm h1.2.symm
        · rename_i b hb
          simp only at hb
          rw [hb] at hvt
          have hvv := hvt.sb_eq
          have hy := yielded_of hj ht hvv
          have hF' : ∀ c : Bool, b = c → FR σ φ ((maskF (slotsOf ops.toList o) 0 s.fr).set t (.v (.bool c))) a := fun c e => hFR.refine (by rw [hvv, e]; exact V_v _)
          split at h1
          · cases b with
            | true =>
              simp only [Tree.get] at h1
              simp only [Region.wanted, hg, hy, beq_self_eq_true, if_true]
              exact done (hF' true rfl) set_ids h1
            | false =>
              simp only [Tree.get, Option.some.injEq, Prod.mk.injEq] at h1
              simp only [Region.wanted, hg, hy, show (some false == some true) = false from rfl, Bool.false_eq_true, if_false]
              exact skip (hF' false rfl) h1.1.symm h1.2.symm
          · cases b with
            | true =>
              simp only [Tree.get, Option.some.injEq, Prod.mk.injEq] at h1
              simp only [Region.wanted, hg, hy, show (some true == some false) = false from rfl, Bool.false_eq_true, if_false]
              exact skip (hF' true rfl) h1.1.symm h1.2.symm
            | false =>
              simp only [Tree.get] at h1
              simp only [Region.wanted, hg, hy, beq_self_eq_true, if_true]
              exact done (hF' false rfl) set_ids h1
        · simp [Tree.get] at h1
      · simp [Tree.get] at h1
    · simp [Tree.get] at h1
end
end Go.Eng

namespace Go.Eng
open Go
section
variable {P : Program} {Γ : Nat → AV} {κ : Ctx} {m : Nat} {σ : Store} {φ : Places} {w : World} {ip : Bool} {T : List (CT P Γ)}
theorem anyF_ok {ops : Array Oper} {Q : Exit → Act → World → Prop} {S : Nat → St} {L : Nat → StW} {N : Nat} {σ0 : Store} {φ0 : Places} {a0 : Act} (hd : drawOk ops.toList = true) (hb : backOk 0 ops.toList = true)
    (hS : ∀ k o, ops[k]? = some o → (stepV T ip ops o (S k)).get = some (L k) ∧ (L k).s.fr = (S (k + 1)).fr ∧ (L k).s.H = (S (k + 1)).H) (hN : ∀ k, k ≤ ops.size → (S k).fr.length = N)
    (hcf : ∀ i j, i < j → j < ops.size → ((befores ops.toList []).getD j 0).testBit i = true ∨
      ((∀ b ∈ (L j).w, ∃ F, (L i).f = some F ∧ b ∉ F) ∧ (∀ b ∈ (L i).w, ∃ F, (L j).f = some F ∧ b ∉ F) ∧ ∀ b ∈ (L i).w, b ∉ (L j).w))
    (hm : m ≤ (S 0).H.length)
    (hQ : ∀ a' w' σ' φ', σ0.le σ' → (∀ k, k < m → φ' k = φ0 k) → a'.defers = a0.defers → Inv κ m σ' φ' (S ops.size).fr (S ops.size).H a' w' → Q .normal a' w') :
    ∀ (fuel : Nat) (listed : Array Bool) (a : Act) (w : World) (σ : Store) (φ : Places) (G : Get), listed.size = ops.size → ((List.range ops.size).filter fun i => !listed.getD i true).length ≤ fuel →
      (∀ j o, listed.getD j false = true → ops[j]? = some o → ∀ e ∈ o.after, Region.binds .any e = true → listed.getD e.on false = true) → a.tmps.size = N →
      (∀ t k, k ≤ ops.size → (∀ i oi, ops[i]? = some oi → oi.dst = some t → (listed.getD i false = true ↔ i < k)) → V σ φ ((S k).fr.getD t .any) (a.tmps.getD t undef)) →
      (∀ b k, k ≤ ops.size → (∀ i, i < ops.size → b ∈ (L i).w → (listed.getD i false = true ↔ i < k)) → G b = getH (S k).H b) →
      R κ σ φ G w → (∀ i b, i < ops.size → listed.getD i false = false → (S i).H.length ≤ b → b < (S (i + 1)).H.length → φ b = none) → (∀ b, (S ops.size).H.length ≤ b → φ b = none) →
      Globals Γ σ → σ0.le σ → (∀ k, k < m → φ k = φ0 k) → a.defers = a0.defers → wpAny P .any ops Q fuel listed a w := by
  have hstep : ∀ k, k < ops.size → KeepsW (S k).H (S (k + 1)).H (L k).w := fun k hk => by
    obtain ⟨h1, _, h3⟩ := hS k ops[k] (by simp [hk])
    rw [← h3]; exact stepV_keeps h1
  have hmono : ∀ j, j ≤ ops.size → ∀ i, i ≤ j → (S i).H.length ≤ (S j).H.length := by
    intro j
    induction j with
    | zero => intro _ i hi; obtain rfl : i = 0 := by omega
              exact Nat.le_refl _
    | succ j ih =>
      intro hj i hi
      by_cases e : i = j + 1
      · subst e; exact Nat.le_refl _
      · exact Nat.le_trans (ih (by omega) i (by omega)) (hstep j (by omega)).2.1
  have hflat : ∀ (b d k : Nat), k + d ≤ ops.size → (∀ i, k ≤ i → i < k + d → b ∉ (L i).w) → getH (S (k + d)).H b = getH (S k).H b := by
    intro b d
    induction d with
    | zero => intro k _ _; rfl
    | succ d ih =>
      intro k hk hno
      rw [show k + (d + 1) = k + d + 1 by omega, (hstep (k + d) (by omega)).1 b (hno (k + d) (by omega) (by omega))]
      exact ih k (by omega) fun i h1 h2 => hno i h1 (by omega)
  have fin : ∀ (listed : Array Bool) (a : Act) (w : World) (σ : Store) (φ : Places) (G : Get), (∀ i, i < ops.size → listed.getD i false = true) → a.tmps.size = N →
      (∀ t k, k ≤ ops.size → (∀ i oi, ops[i]? = some oi → oi.dst = some t → (listed.getD i false = true ↔ i < k)) → V σ φ ((S k).fr.getD t .any) (a.tmps.getD t undef)) →
      (∀ b k, k ≤ ops.size → (∀ i, i < ops.size → b ∈ (L i).w → (listed.getD i false = true ↔ i < k)) → G b = getH (S k).H b) →
      R κ σ φ G w → (∀ b, (S ops.size).H.length ≤ b → φ b = none) → σ0.le σ → (∀ k, k < m → φ k = φ0 k) → a.defers = a0.defers → Q .normal a w := by
    intro listed a w σ φ G hall hsz hV hGt hR hn hσ hφ hdf
    have e : G = getH (S ops.size).H := funext fun b => hGt b ops.size (Nat.le_refl _) fun i hi _ => ⟨fun _ => hi, fun _ => hall i hi⟩
    subst e
    refine hQ a w σ φ hσ hφ hdf ⟨Nat.le_trans hm (hmono _ (Nat.le_refl _) 0 (Nat.zero_le _)), ⟨by rw [hN _ (Nat.le_refl _)]; exact hsz.symm, fun t => hV t ops.size (Nat.le_refl _) fun i oi hi _ => ?_⟩, hR, hn⟩
    have := (Array.getElem?_eq_some_iff.1 hi).1
    exact ⟨fun _ => this, fun _ => hall i this⟩
  intro fuel
  induction fuel with
  | zero =>
    intro listed a w σ φ G hls hcnt hcl hsz hV hGt hR hnew hn hG hσ hφ hdf
    have hnil : (List.range ops.size).filter (fun i => !listed.getD i true) = [] := List.eq_nil_of_length_eq_zero (by omega)
    have hall : ∀ i, i < ops.size → listed.getD i false = true := fun i hi => by
      have := List.filter_eq_nil_iff.1 hnil i (by simpa using hi)
      rw [lget_flip (by rw [hls]; exact hi) false true]
      simpa using this
    refine ⟨?_, fin listed a w σ φ G hall hsz hV hGt hR hn hσ hφ hdf⟩
    refine List.eq_nil_iff_forall_not_mem.2 fun j hj => ?_
    obtain ⟨h0, o, ho, _⟩ := mem_ready.1 hj
    have hjl := (Array.getElem?_eq_some_iff.1 ho).1
    have := hall j hjl
    rw [lget_flip (by rw [hls]; exact hjl) false true, h0] at this
    simp at this
  | succ fuel ih =>
    intro listed a w σ φ G hls hcnt hcl hsz hV hGt hR hnew hn hG hσ hφ hdf
    refine ⟨fun hnil => ?_, fun i hi => ?_⟩
    · refine fin listed a w σ φ G (fun i => ?_) hsz hV hGt hR hn hσ hφ hdf
      induction i using Nat.strongRecOn with
      | _ i ihi =>
        intro hi
        cases hl : listed.getD i false with
        | true => rfl
        | false =>
          have hi' : ops[i]? = some ops[i] := by simp [hi]
          have : i ∈ Region.ready .any ops listed := mem_ready.2 ⟨by rw [lget_flip (by rw [hls]; exact hi) true false]; exact hl, ops[i], hi', fun e hea hbe => by
            have hlt := backOk_get hb i ops[i] (by simpa using hi') e hea hbe
            exact ihi e.on (by omega) (by omega)⟩
          rw [hnil] at this
          simp at this
    · obtain ⟨h0, o, ho, hall⟩ := mem_ready.1 hi
      have hil := (Array.getElem?_eq_some_iff.1 ho).1
      have hun : listed.getD i false = false := by rw [lget_flip (by rw [hls]; exact hil) false true]; exact h0
      have hol : ops.toList[i]? = some o := by simpa using ho
      have hmem : o ∈ ops.toList := List.mem_of_getElem? hol
      have closed : ∀ j, listed.getD j false = true → ∀ i, ((befores ops.toList []).getD j 0).testBit i = true → listed.getD i false = true :=
        befores_sound (D := fun j => listed.getD j false = true) ops.toList [] (fun j hj o' _ ho' => hcl j o' hj (by simpa using ho')) (fun j hlt => by simp at hlt)
      have ahead : ∀ i', ((befores ops.toList []).getD i 0).testBit i' = true → i' ≠ i → listed.getD i' false = true := fun i' hb' hne => by
        have := befores_sound (D := fun j => listed.getD j false = true ∨ j = i) ops.toList [] (fun j hj o' _ ho' e hea hbe => by
          rcases hj with hj | rfl
          · exact .inl (hcl j o' hj (by simpa using ho') e hea hbe)
          · have e' : o' = o := by have h1 : ops[j]? = some o' := by simpa using ho'
                                   rw [ho] at h1; exact (Option.some.inj h1).symm
            subst e'
            exact .inl (hall e hea hbe)) (fun j hlt => by simp at hlt) i (.inr rfl) i' hb'
        rcases this with h | h
        · exact h
        · exact absurd h hne
      have hslots : ∀ t ∈ slotsOf ops.toList o, V σ φ ((S i).fr.getD t .any) (a.tmps.getD t undef) := fun t ht => hV t i (by omega) fun i' oi' hi' hdst => by
          have hil' := (Array.getElem?_eq_some_iff.1 hi').1
          have hol' : ops.toList[i']? = some oi' := by simpa using hi'
          rcases Nat.lt_trichotomy i' i with hlt | rfl | hlt
          · refine ⟨fun _ => hlt, fun _ => ?_⟩
            rcases drawOk_get hd hol' hol hlt with ⟨h1, _⟩ | h1
            · exact absurd ht (h1 t hdst).1
            · exact ahead i' h1 (by omega)
          · exact ⟨fun h => by rw [hun] at h; simp at h, fun h => absurd h (Nat.lt_irrefl _)⟩
          · refine ⟨fun hl => ?_, fun h => by omega⟩
            rcases drawOk_get hd hol hol' hlt with ⟨_, h1⟩ | h1
            · exact absurd ht (h1 t hdst)
            · have := closed i' hl i h1
              rw [hun] at this; simp at this
      obtain ⟨hS1, hS2, hS3⟩ := hS i o ho
      -- a block that this step looks at is as the text has it
      have hlook : ∀ b, (∀ F, (L i).f = some F → b ∈ F) → G b = getH (S i).H b := fun b hbf => hGt b i (by omega) fun j hj hbw => by
        rcases Nat.lt_trichotomy j i with hlt | rfl | hlt
        · refine ⟨fun _ => hlt, fun _ => ?_⟩
          rcases hcf j i hlt hil with h1 | ⟨_, h1, _⟩
          · exact ahead j h1 (by omega)
          · obtain ⟨F, f1, f2⟩ := h1 b hbw
            exact absurd (hbf F f1) f2
        · exact ⟨fun h => by rw [hun] at h; simp at h, fun h => absurd h (Nat.lt_irrefl _)⟩
        · refine ⟨fun hl => ?_, fun h => by omega⟩
          rcases hcf i j hlt hj with h1 | ⟨h1, _, _⟩
          · have := closed j hl i h1
            rw [hun] at this; simp at this
          · obtain ⟨F, f1, f2⟩ := h1 b hbw
            exact absurd (hbf F f1) f2
      have hkp := hstep i hil
      have hstp := stepV_ok (Q := Q) (κ := κ) (σ := σ) (φ := φ) (w := w) (a := a) (G := G) (next := wpAny P .any ops Q fuel (listed.setIfInBounds i true)) hmem hS1 (by rw [hN i (by omega)]; exact hsz.symm)
        hslots hR hlook (fun k k1 k2 => hnew i k hil hun k1 (by rw [← hS3]; exact k2)) hG ?_
      · unfold wpOp
        rw [ho]
        split at hstp
        · rename_i hw; simp only [hw, if_true]; exact .inl hstp
        · rename_i hw; simp only [hw]; exact hstp
      · intro a' w' σ' φ' G' e1 ep en e2 e3 e4 e5 hR' g1 g2
        have hl' : ∀ j, j ≠ i → (listed.setIfInBounds i true).getD j false = listed.getD j false := fun j hj => by rw [lget, if_neg (fun h => hj h.1.symm)]
        have hli : (listed.setIfInBounds i true).getD i false = true := by rw [lget, if_pos ⟨rfl, by rw [hls]; exact hil⟩]
        rw [hS3] at en g1
        refine ih (listed.setIfInBounds i true) a' w' σ' φ' G' (by simpa using hls) ?_ ?_ (e3.trans hsz) ?_ ?_ hR' ?_ (fun b hb' => en b (hn b hb') (.inr (Nat.le_trans (hmono _ (Nat.le_refl _) (i + 1) hil) hb'))) (hG.mono e1) (Store.le_trans hσ e1)
          (fun k hk => ?_) (e2.trans hdf)
        · have := filter_lt (p := fun j => !(listed.setIfInBounds i true).getD j true) (q := fun j => !listed.getD j true) (l := List.range ops.size) (fun j _ hj => by
            rw [lget] at hj
            split at hj
            · simp at hj
            · exact hj) (x := i) (by simpa using hil) (by rw [h0]; rfl) (by rw [lget, if_pos ⟨rfl, by rw [hls]; exact hil⟩]; rfl)
          omega
        · intro j o' hj ho' e hea hbe
          by_cases hji : j = i
          · subst hji
            have e' : o' = o := by rw [ho] at ho'; exact (Option.some.inj ho').symm
            subst e'
            have h1 := hall e hea hbe
            by_cases hei : e.on = j
            · rw [hei]; exact hli
            · rw [hl' _ hei]; exact h1
          · rw [hl' j hji] at hj
            have h1 := hcl j o' hj ho' e hea hbe
            by_cases hei : e.on = i
            · rw [hei]; exact hli
            · rw [hl' _ hei]; exact h1
        · intro t k hk hag
          by_cases hdst : o.dst = some t
          · have hik : i < k := (hag i o ho hdst).1 hli
            have chain : ∀ d, i + 1 + d ≤ k → V σ' φ' ((S (i + 1 + d)).fr.getD t .any) (a'.tmps.getD t undef) := by
              intro d
              induction d with
              | zero => intro _; rw [Nat.add_zero, ← hS2]; exact e5 t hdst
              | succ d ihd =>
                intro hle
                have hlt : i + 1 + d < ops.size := by omega
                have hok : ops[i + 1 + d]? = some ops[i + 1 + d] := by simp [hlt]
                have hokl : ops.toList[i + 1 + d]? = some ops[i + 1 + d] := by simpa using hok
                have hne : (ops[i + 1 + d]).dst ≠ some t := fun hd' => by
                  have h1 := (hag (i + 1 + d) _ hok hd').2 (by omega)
                  rw [hl' _ (by omega)] at h1
                  rcases drawOk_get hd hol hokl (by omega) with ⟨h2, _⟩ | h2
                  · exact (h2 t hdst).2 hd'
                  · have := closed _ h1 i h2
                    rw [hun] at this; simp at this
                obtain ⟨q1, q2, _⟩ := hS _ _ hok
                have := (stepD_same (List.mem_of_getElem? hokl) (stepV_D q1) hne σ' φ' _).2 (ihd (by omega))
                rw [q2] at this
                exact this
            have := chain (k - (i + 1)) (by omega)
            rwa [show i + 1 + (k - (i + 1)) = k by omega] at this
          · rw [e4 t hdst]
            refine (hV t k hk fun i' oi' hi' hdst' => ?_).mono e1 ep
            have hne : i' ≠ i := fun h => by
              subst h
              rw [ho] at hi'
              have := Option.some.inj hi'
              subst this
              exact hdst hdst'
            rw [← hl' i' hne]
            exact hag i' oi' hi' hdst'
        · intro b k hk hag
          by_cases hbw : b ∈ (L i).w
          · have hik : i < k := (hag i hil hbw).1 hli
            rw [g1 b hbw]
            have := hflat b (k - (i + 1)) (i + 1) (by omega) fun j hj1 hj2 hbj => by
              have h1 := (hag j (by omega) hbj).2 (by omega)
              rw [hl' _ (by omega)] at h1
              rcases hcf i j (by omega) (by omega) with h2 | ⟨_, _, h2⟩
              · have := closed _ h1 i h2
                rw [hun] at this; simp at this
              · exact h2 b hbw hbj
            rw [show i + 1 + (k - (i + 1)) = k by omega] at this
            exact this.symm
          · rw [g2 b hbw]
            refine hGt b k hk fun j hj hbj => ?_
            have hne : j ≠ i := fun h => by subst h; exact hbw hbj
            rw [← hl' j hne]
            exact hag j hj hbj
        · intro j b hj hlj hb1 hb2
          have hne : j ≠ i := fun h => by subst h; rw [hli] at hlj; simp at hlj
          rw [hl' j hne] at hlj
          refine en b (hnew j b hj hlj hb1 hb2) ?_
          rcases Nat.lt_or_ge j i with hlt | hge
          · exact .inl (Nat.lt_of_lt_of_le hb2 (hmono i (by omega) (j + 1) hlt))
          · exact .inr (Nat.le_trans (hmono j (by omega) (i + 1) (by omega)) hb1)
        · have : k < (S i).H.length := Nat.lt_of_lt_of_le hk (Nat.le_trans hm (hmono i (by omega) 0 (Nat.zero_le _)))
          rw [← hφ k hk]
          cases hp : φ k with
          | none => exact en k hp (.inl this)
          | some L' => exact ep k L' hp
theorem stepsY_states {ops : Array Oper} : ∀ (l : List Oper) (fr : List AV) (H : Heap) (R : List StW), (stepsY T ip ops l fr H).get = some R → ∃ (S : Nat → St), S 0 = ⟨fr, H, false⟩ ∧ R.length = l.length ∧
    (∀ k o r, l[k]? = some o → R[k]? = some r → (stepV T ip ops o (S k)).get = some r ∧ r.s.fr = (S (k + 1)).fr ∧ r.s.H = (S (k + 1)).H) := by
  intro l
  induction l with
  | nil =>
    intro fr H R h
    obtain rfl := Tree.leafX_get h
    exact ⟨fun _ => ⟨fr, H, false⟩, rfl, rfl, fun k o r ho => by simp at ho⟩
  | cons o l ih =>
    intro fr H R h
    simp only [stepsY] at h
    obtain ⟨r1, h1, h2⟩ := Tree.get_bind_some h
    obtain ⟨R', h3, h4⟩ := Tree.get_bind_some h2
    obtain rfl := Tree.leafX_get h4
    obtain ⟨S, k1, k2, k3⟩ := ih r1.s.fr r1.s.H R' h3
    refine ⟨fun k => match k with | 0 => ⟨fr, H, false⟩ | k + 1 => S k, rfl, by simp [k2], fun k o' r ho' hr => ?_⟩
    cases k with
    | zero =>
      simp only [List.getElem?_cons_zero, Option.some.injEq] at ho' hr
      subst ho'; subst hr
      exact ⟨h1, by show r1.s.fr = (S 0).fr; rw [k1], by show r1.s.H = (S 0).H; rw [k1]⟩
    | succ k => exact k3 k o' r (by simpa using ho') (by simpa using hr)
theorem lastX_states {S : Nat → St} : ∀ {R : List StW} {k : Nat}, (∀ (i : Nat) (r : StW), R[i]? = some r → r.s.fr = (S (k + i + 1)).fr ∧ r.s.H = (S (k + i + 1)).H) → lastX (S k).fr (S k).H (R.map (·.s)) = ((S (k + R.length)).fr, (S (k + R.length)).H)
  | [], k, _ => rfl
  | r :: R, k, h => by
    obtain ⟨h1, h2⟩ := h 0 r rfl
    show lastX r.s.fr r.s.H (R.map (·.s)) = _
    rw [h1, h2, Nat.add_zero, lastX_states (k := k + 1) fun i r' hr => by
      have := h (i + 1) r' (by simpa using hr)
      rwa [show k + (i + 1) + 1 = k + 1 + i + 1 by omega] at this, List.length_cons, show k + 1 + R.length = k + (R.length + 1) by omega]
theorem meets_false {a b : List Nat} (h : meets a b = false) : ∀ x ∈ a, x ∉ b := by
  intro x hx hxb
  have := List.any_eq_false.1 h x hx
  rw [memN_iff.2 hxb] at this
  simp at this
theorem apartW_ok {w : List Nat} {f : Option (List Nat)} (h : apartW w f = true) : ∀ b ∈ w, ∃ F, f = some F ∧ b ∉ F := by
  intro b hb
  unfold apartW at h
  split at h
  · simp at hb
  · split at h
    · rename_i F
      exact ⟨F, rfl, meets_false (by simpa using h) b hb⟩
    · simp at h
theorem footOk_get {bef : List Nat} {L : List StW} (h : footOk bef L = true) {i j : Nat} {ri rj : StW} (hi : L[i]? = some ri) (hj : L[j]? = some rj) (hlt : i < j) :
    (bef.getD j 0).testBit i = true ∨ ((∀ b ∈ rj.w, ∃ F, ri.f = some F ∧ b ∉ F) ∧ (∀ b ∈ ri.w, ∃ F, rj.f = some F ∧ b ∉ F) ∧ ∀ b ∈ ri.w, b ∉ rj.w) := by
  unfold footOk at h
  have hjl : j < L.length := (List.getElem?_eq_some_iff.1 hj).1
  have h1 := List.all_eq_true.1 h j (by simpa using hjl)
  simp only [hj] at h1
  have h2 := List.all_eq_true.1 h1 i (by simpa using hlt)
  simp only [hi, Bool.or_eq_true, Bool.and_eq_true, Bool.not_eq_true'] at h2
  rcases h2 with h2 | ⟨⟨h3, h4⟩, h5⟩
  · exact .inl h2
  · exact .inr ⟨apartW_ok h3, apartW_ok h4, meets_false h5⟩
theorem draw_ok {ops : Array Oper} {id : Nat} {fr : List AV} {H : Heap} {s' : St} {a : Act} {Q : Exit → Act → World → Prop} (h : (drawE T ip ops fr H).get = some s') (hI : Inv κ m σ φ fr H a w) (hG : Globals Γ σ)
    (hQ : ∀ a' w' σ' φ', σ.le σ' → (∀ k, k < m → φ' k = φ k) → a'.defers = a.defers → Inv κ m σ' φ' s'.fr s'.H a' w' → Q .normal a' w') : (Code.region id ops true).wp P Q a w := by
  unfold drawE at h
  split at h
  · rename_i hc
    simp only [Bool.and_eq_true] at hc
    obtain ⟨⟨hd, hb⟩, hmix⟩ := hc
    obtain ⟨s, h1, h2⟩ := merge_ok (s0 := ⟨fr, H, false⟩) drawY_keeps h
    obtain ⟨Rs, k1, k2⟩ := Tree.get_bind_some h1
    have kX : (stepsX T ip ops ops.toList fr H).get = some (Rs.map (·.s)) := by rw [← stepsY_map, Tree.get_bind, k1]; rfl
    have viaX : (endX T ip ops fr H (Rs.map (·.s))).get = some s → (Code.region id ops true).wp P Q a w := fun hx =>
      drawX_ok hd hb hmix kX hx hI hG fun a' w' σ' φ' e1 e2 e3 hI' => hQ a' w' σ' φ' e1 e2 e3 (h2 _ _ _ _ _ _ hI')
    unfold endY at k2
    split at k2
    · rename_i hw
      refine viaX ?_
      unfold endX
      rw [hw]
      exact k2
    · split at k2
      · rename_i hfo
        have := Tree.leafX_get k2
        subst this
        obtain ⟨S, j1, j2, j3⟩ := stepsY_states ops.toList fr H Rs k1
        have hsz : ops.toList.length = ops.size := by simp
        rw [hsz] at j2
        have hat : ∀ k, k < ops.size → ∃ r, Rs[k]? = some r := fun k hk => ⟨Rs[k]'(by rw [j2]; exact hk), by simp [j2, hk]⟩
        let L : Nat → StW := fun k => Rs.getD k ⟨⟨[], [], false⟩, [], none⟩
        have hL : ∀ k, k < ops.size → Rs[k]? = some (L k) := fun k hk => by
          obtain ⟨r, hr⟩ := hat k hk
          rw [hr]
          show _ = some (Rs.getD k _)
          rw [List.getD_eq_getElem?_getD, hr]; rfl
        have hS : ∀ k o, ops[k]? = some o → (stepV T ip ops o (S k)).get = some (L k) ∧ (L k).s.fr = (S (k + 1)).fr ∧ (L k).s.H = (S (k + 1)).H := fun k o ho =>
          j3 k o (L k) (by simpa using ho) (hL k (Array.getElem?_eq_some_iff.1 ho).1)
        have hlast := lastX_states (S := S) (R := Rs) (k := 0) fun i r hr => by
          have hi : i < ops.size := by rw [← j2]; exact (List.getElem?_eq_some_iff.1 hr).1
          rw [Nat.zero_add]
          exact (j3 i ops[i] r (by simp [hi]) hr).2
        rw [j1, Nat.zero_add, j2] at hlast
        have hN : ∀ k, k ≤ ops.size → (S k).fr.length = fr.length := by
          intro k
          induction k with
          | zero => intro _; rw [j1]
          | succ k ih =>
            intro hk
            have hok : ops[k]? = some ops[k] := by simp [show k < ops.size from hk]
            obtain ⟨q1, q2, _⟩ := hS k _ hok
            have := ((stepD_keeps (List.mem_of_getElem? (show ops.toList[k]? = some ops[k] by simpa using hok))).get (stepV_D q1)).1
            rw [q2] at this
            exact this.trans (ih (by omega))
        refine wp_region_any hmix ?_
        refine anyF_ok (κ := κ) (m := m) (S := S) (L := L) (N := fr.length) (σ0 := σ) (φ0 := φ) (a0 := a) hd hb hS hN (fun i j hij hj => footOk_get hfo (hL i (by omega)) (hL j hj) hij) (by rw [j1]; exact hI.len)
          (fun a' w' σ' φ' e1 e2 e3 hI' => hQ a' w' σ' φ' e1 e2 e3 (h2 _ _ _ _ _ _ (by rw [hlast]; exact hI')))
          ops.size _ a _ σ φ (getH H) (by simp) ?_ ?_ hI.F.1.symm ?_ ?_ ?_ ?_ ?_ hG (Store.le_refl σ) (fun _ _ => rfl) rfl
        · exact Nat.le_trans (List.length_filter_le _ _) (by simp)
        · intro j o hj
          rw [Array.getD_eq_getD_getElem?, Array.getElem?_replicate] at hj
          split at hj <;> simp at hj
        · intro t k hk hag
          have : ∀ d, d ≤ k → V σ φ ((S d).fr.getD t .any) (a.tmps.getD t undef) := by
            intro d
            induction d with
            | zero => intro _; rw [j1]; exact hI.F.2 t
            | succ d ih =>
              intro hd'
              have hlt : d < ops.size := by omega
              have hok : ops[d]? = some ops[d] := by simp [hlt]
              have hne : (ops[d]).dst ≠ some t := fun hdst => by
                have := (hag d _ hok hdst).2 (by omega)
                rw [Array.getD_eq_getD_getElem?, Array.getElem?_replicate] at this
                split at this <;> simp at this
              obtain ⟨q1, q2, _⟩ := hS d _ hok
              have := (stepD_same (List.mem_of_getElem? (show ops.toList[d]? = some ops[d] by simpa using hok)) (stepV_D q1) hne σ φ _).2 (ih (by omega))
              rw [q2] at this
              exact this
          exact this k (Nat.le_refl _)
        · intro b k hk hag
          have : ∀ d, d ≤ k → getH H b = getH (S d).H b := by
            intro d
            induction d with
            | zero => intro _; rw [j1]
            | succ d ih =>
              intro hd'
              have hlt : d < ops.size := by omega
              have hok : ops[d]? = some ops[d] := by simp [hlt]
              obtain ⟨q1, _, q3⟩ := hS d _ hok
              have hno : b ∉ (L d).w := fun hbw => by
                have := (hag d hlt hbw).2 (by omega)
                rw [Array.getD_eq_getD_getElem?, Array.getElem?_replicate] at this
                split at this <;> simp at this
              have := (stepV_keeps q1).1 b hno
              rw [q3] at this
              rw [this]; exact ih (by omega)
          exact this k (Nat.le_refl _)
        · exact hI.R.drew rfl rfl rfl rfl
        · intro i b hi _ hb1 _
          refine hI.none b (Nat.le_trans ?_ hb1)
          have : ∀ d, d ≤ i → H.length ≤ (S d).H.length := by
            intro d
            induction d with
            | zero => intro _; rw [j1]; exact Nat.le_refl _
            | succ d ih =>
              intro hd'
              have hlt : d < ops.size := by omega
              have hok : ops[d]? = some ops[d] := by simp [hlt]
              obtain ⟨q1, _, q3⟩ := hS d _ hok
              have := (stepV_keeps q1).2.1
              rw [q3] at this
              exact Nat.le_trans (ih (by omega)) this
          exact this i (Nat.le_refl _)
        · intro b hb1
          refine hI.none b (Nat.le_trans ?_ hb1)
          have : ∀ d, d ≤ ops.size → H.length ≤ (S d).H.length := by
            intro d
            induction d with
            | zero => intro _; rw [j1]; exact Nat.le_refl _
            | succ d ih =>
              intro hd'
              have hlt : d < ops.size := by omega
              have hok : ops[d]? = some ops[d] := by simp [hlt]
              obtain ⟨q1, _, q3⟩ := hS d _ hok
              have := (stepV_keeps q1).2.1
              rw [q3] at this
              exact Nat.le_trans (ih (by omega)) this
          exact this ops.size (Nat.le_refl _)
      · exact viaX k2
  · simp [Tree.get] at h
end
end Go.Eng

namespace Go.Eng
open Go

section
variable {P : Program} {Γ : Nat → AV} {κ : Ctx} {m : Nat} {σ : Store} {φ : Places} {w : World} {ip : Bool} {T : List (CT P Γ)}

theorem canonIds_ok {vals : List AV} {H : Heap} {ids : List Nat} (h : canonIds m vals H = some ids) :
    ids.Nodup ∧ (∀ k, k < m → ids[k]? = some k) ∧ m ≤ ids.length ∧ (∀ i ∈ AV.idsL vals, i ∈ ids) ∧ (∀ i ∈ ids, ∀ b, getH H i = some b → ∀ j ∈ blkIds b, j ∈ ids) := by
  unfold canonIds at h
  split at h
  · rename_i ids0 h0
    split at h
    · rename_i all ha
      simp only [Option.some.injEq] at h
      subst h
      obtain ⟨_, _, t0, _, _⟩ := reach_ok _ _ _ _ h0 (by simp) (by simp) (by simp)
      obtain ⟨n1, _, t1, _, c1⟩ := reach_ok _ _ _ _ ha (by simp) (by simp) (by simp)
      have inn : ∀ i, i ∈ all → i ∈ List.range m ++ all.filter (fun i => Nat.ble m i) := fun i hi => by
        by_cases hlt : i < m
        · simp [hlt]
        · refine List.mem_append_right _ (List.mem_filter.2 ⟨hi, ?_⟩)
          exact Nat.ble_eq_true_of_le (by omega)
      refine ⟨List.nodup_append.2 ⟨List.nodup_range, n1.filter _, fun a ha b hb e => ?_⟩, fun k hk => ?_, by simp, fun i hi => inn i (t1 i (by simp [t0 i hi])), fun i hi b hb j hj => ?_⟩
      · subst e
        have h1 : a < m := by simpa using ha
        have h2 := Nat.le_of_ble_eq_true (List.mem_filter.1 hb).2
        omega
      · rw [List.getElem?_append_left (by simpa using hk)]; simp [hk]
      · have hall : i ∈ all := by
          rcases List.mem_append.1 hi with h | h
          · refine t1 i (List.mem_append_right _ (List.mem_filter.2 ⟨h, by simp [hb]⟩))
          · exact (List.mem_filter.1 h).1
        exact inn j (c1 i hall b hb j hj)
    · simp at h
  · simp at h

theorem canon_ok {vals vals' : List AV} {H H' : Heap} {ys : List Value} (h : canon m vals H = some (vals', H')) (hv : VL σ φ vals ys) (hR : R κ σ φ (getH H) w) :
    ∃ φ', (∀ k, k < m → φ' k = φ k) ∧ VL σ φ' vals' ys ∧ R κ σ φ' (getH H') w ∧ (∀ k, H'.length ≤ k → φ' k = none) ∧ m ≤ H'.length := by
  unfold canon at h
  split at h
  · rename_i ids hids
    simp only [Option.some.injEq, Prod.mk.injEq] at h
    obtain ⟨rfl, rfl⟩ := h
    obtain ⟨hn, hlow, hm, hval, hcl⟩ := canonIds_ok hids
    have hlen : (canonH (fun i => posIn i ids) H ids).length = ids.length := by simp [canonH]
    have hgetH : ∀ (k i : Nat), ids[k]? = some i → getH (canonH (fun i => posIn i ids) H ids) k = (getH H i).map (blkRen fun i => posIn i ids) := by
      intro k i hk
      show (match (canonH _ H ids)[k]? with | some b => b | none => none) = _
      simp [canonH, hk]
    have hphi : ∀ (k : Nat) (L : Lc), (ids[k]?.bind φ) = some L → ∃ i, ids[k]? = some i ∧ φ i = some L := by
      intro k L h
      cases hk : ids[k]? with
      | none => simp [hk] at h
      | some i => exact ⟨i, rfl, by simpa [hk] using h⟩
    refine ⟨fun (k : Nat) => ids[k]?.bind φ, fun k hk => by simp [hlow k hk], hv.ren fun i hi L hL => by simp [posIn_get (hval i hi), hL], ?_, fun k hk => by
      rw [hlen] at hk; simp [List.getElem?_eq_none hk], by rw [hlen]; exact hm⟩
    refine ⟨hR.cell, fun k L hk hv hg o => ?_, fun k blk L hg hk hv => ?_, fun k j Lk Lj hne hgk hgj pk pj vk vj => ?_, fun k L hk hv => ?_, hR.tape, hR.os, hR.output, hR.grow, hR.old, hR.store,
      fun k L hk hv => ?_, hR.base, fun k b hg => ?_, fun k L sz n f hg hk => ?_⟩
    · obtain ⟨i, hi, hp⟩ := hphi k L hk
      rw [hgetH k i hi] at hg
      exact hR.apart i L hp hv (by simpa using hg) o
    · obtain ⟨i, hi, hp⟩ := hphi k L hk
      rw [hgetH k i hi] at hg
      obtain ⟨b, hb, rfl⟩ := Option.map_eq_some_iff.1 hg
      refine blkAt_ren (hR.obj i b L hb hp hv) fun j hj K hK => ?_
      have hj' := hcl i (List.mem_of_getElem? hi) b hb j hj
      simp [posIn_get hj', hK]
    · obtain ⟨i, hi, hp⟩ := hphi k Lk pk
      obtain ⟨i', hi', hp'⟩ := hphi j Lj pj
      rw [hgetH k i hi] at hgk
      rw [hgetH j i' hi'] at hgj
      refine hR.dis i i' Lk Lj (fun e => hne ?_) (by simpa using hgk) (by simpa using hgj) hp hp' vk vj
      subst e
      have h1 := (List.getElem?_eq_some_iff.1 hi)
      have h2 := (List.getElem?_eq_some_iff.1 hi')
      exact (List.getElem_inj hn).1 (h1.2.trans h2.2.symm)
    · obtain ⟨i, hi, hp⟩ := hphi k L hk
      exact hR.lt i L hp hv
    · obtain ⟨i, hi, hp⟩ := hphi k L hk
      exact hR.mine i L hp hv
    · cases hk : ids[k]? with
      | none =>
        have : getH (canonH (fun i => posIn i ids) H ids) k = none := by
          show (match (canonH _ H ids)[k]? with | some b => b | none => none) = _
          simp [canonH, hk]
        rw [this] at hg; simp at hg
      | some i =>
        rw [hgetH k i hk] at hg
        obtain ⟨b0, hb0, rfl⟩ := Option.map_eq_some_iff.1 hg
        exact blkWf_ren (hR.wf i b0 hb0)
    · obtain ⟨i, hi, hp⟩ := hphi k L hk
      rw [hgetH k i hi] at hg
      obtain ⟨b0, hb0, he⟩ := Option.map_eq_some_iff.1 hg
      exact hR.len i L sz n f (by rw [hb0, blkRen_arr he]) hp
  · simp at h

theorem VL.mono {φ' : Places} {xs : List AV} {ys : List Value} (hp : φ.le φ') (h : VL σ φ xs ys) : VL σ φ' xs ys := ⟨h.1, fun j c y hc hy => (h.2 j c y hc hy).mono (Store.le_refl σ) hp⟩
theorem R.sub {get get' : Get} (h : R κ σ φ get w) (hs : ∀ i b', get' i = some b' → ∃ b, get i = some b ∧ (∀ L, φ i = some L → L.virt = false → blkAt σ φ w L b → blkAt σ φ w L b') ∧ (blkWf b → blkWf b') ∧ (∀ sz n f, b' = .arr sz n f → b = .arr sz n f)) : R κ σ φ get' w where
  cell := h.cell
  apart := fun i L hi hv hg o => by
    cases hb : get' i with
    | none => rw [hb] at hg; simp at hg
    | some b' =>
      obtain ⟨b, h1, _⟩ := hs i b' hb
      exact h.apart i L hi hv (by simp [h1]) o
  obj := fun i blk L hg hi hv => by
    obtain ⟨b, h1, h2, _⟩ := hs i blk hg
    exact h2 L hi hv (h.obj i b L h1 hi hv)
  dis := fun i j Li Lj hne hgi hgj => by
    cases hb : get' i with
    | none => rw [hb] at hgi; simp at hgi
    | some bi =>
      cases hb' : get' j with
      | none => rw [hb'] at hgj; simp at hgj
      | some bj =>
        obtain ⟨b, h1, _⟩ := hs i bi hb
        obtain ⟨b', h1', _⟩ := hs j bj hb'
        exact h.dis i j Li Lj hne (by simp [h1]) (by simp [h1'])
  lt := h.lt
  tape := h.tape
  os := h.os
  output := h.output
  grow := h.grow
  old := h.old
  store := h.store
  mine := h.mine
  base := h.base
  wf := fun i b' hg => by
    obtain ⟨b, h1, _, h3, _⟩ := hs i b' hg
    exact h3 (h.wf i b h1)
  len := fun i L sz n f hg hi => by
    obtain ⟨b, h1, _, _, h4⟩ := hs i _ hg
    exact h.len i L sz n f (by rw [h1, h4 sz n f rfl]) hi
theorem R.setRow {H : Heap} (h : R κ σ φ (getH H) w) {i c : Nat} {cs : List AV} {x x' : AV} (hg : getH H i = some (.row cs)) (hc : cs[c]? = some x) (hx : ∀ y, V σ φ x y → V σ φ x' y) : R κ σ φ (getH (H.set i (some (.row (cs.set c x'))))) w := by
  refine h.sub fun j b' hb => ?_
  have hil : i < H.length := by
    refine Nat.lt_of_not_le fun hle => ?_
    unfold getH at hg
    rw [List.getElem?_eq_none hle] at hg
    simp at hg
  by_cases e : j = i
  · subst e
    have : getH (H.set j (some (Blk.row (cs.set c x')))) j = some (.row (cs.set c x')) := by
      unfold getH
      rw [List.getElem?_set_self hil]
    rw [this] at hb
    simp only [Option.some.injEq] at hb
    subst hb
    refine ⟨_, hg, fun L _ _ hb => ?_, fun _ => trivial, fun _ _ _ h => by simp at h⟩
    obtain ⟨a, h3, h4, h5, h6⟩ := hb
    refine ⟨a, h3, h4, by rw [List.length_set]; exact h5, fun k z hz => ?_⟩
    rw [List.getElem?_set] at hz
    split at hz
    · rename_i e; subst e
      split at hz
      · simp only [Option.some.injEq] at hz
        subst hz
        obtain ⟨y, k1, k2⟩ := h6 c x hc
        exact ⟨y, k1, hx y k2⟩
      · simp at hz
    · exact h6 k z hz
  · have : getH (H.set i (some (Blk.row (cs.set c x')))) j = getH H j := by
      unfold getH
      rw [List.getElem?_set_ne (fun h => e h.symm)]
    rw [this] at hb
    exact ⟨b', hb, fun _ _ _ h => h, fun h => h, fun _ _ _ h => h⟩
theorem boxNils_ok : ∀ {nils : List (Nat × TypeId)} {vals vals' : List AV} {H H' : Heap} {ys : List Value} {φ : Places}, boxNils P nils vals H = some (vals', H') → VL σ φ vals ys → R κ σ φ (getH H) w →
    (∀ k, H.length ≤ k → φ k = none) → ∃ φ', (∀ k, k < H.length → φ' k = φ k) ∧ VL σ φ' vals' ys ∧ R κ σ φ' (getH H') w ∧ (∀ k, H'.length ≤ k → φ' k = none) ∧ H.length ≤ H'.length := by
  intro nils
  induction nils with
  | nil =>
    intro vals vals' H H' ys φ h hv hR hn
    simp only [boxNils, Option.some.injEq, Prod.mk.injEq] at h
    obtain ⟨rfl, rfl⟩ := h
    exact ⟨φ, fun _ _ => rfl, hv, hR, hn, Nat.le_refl _⟩
  | cons q nils ih =>
    obtain ⟨k, t⟩ := q
    intro vals vals' H H' ys φ h hv hR hn
    have hnb := hn H.length (Nat.le_refl _)
    have hg : ∀ (sz : Nat) (z : List AV), getH (H ++ [some (Blk.arr sz 0 fun _ => z)]) = updG (getH H) H.length (some (.arr sz 0 fun _ => z)) := fun sz z => by
      have := fun j => getH_append (H := H) (bs := [Blk.arr sz 0 fun _ => z]) (k := j)
      funext j
      exact this j
    have hR0 : ∀ (sz : Nat) (z : List AV), z.length = sz → R κ σ (fresh φ H.length ⟨0, 0, sz, 0, 0, true⟩) (getH (H ++ [some (Blk.arr sz 0 fun _ => z)])) w := fun sz z hzl => by
      rw [hg]
      exact hR.virtual (L := ⟨0, 0, sz, 0, 0, true⟩) hnb rfl (some (.arr sz 0 fun _ => z)) (fun b' hb' => by simp at hb'; subst hb'; exact fun _ => hzl) (fun _ _ _ h' => by cases h'; rfl)
    simp only [boxNils] at h
    split at h
    · split at h
      · rename_i hk
        split at h
        · rename_i sz z hsz hz
          split at h
          · rename_i hzl
            have hR1 := hR0 sz z hzl
            have hv1 : VL σ (fresh φ H.length ⟨0, 0, sz, 0, 0, true⟩) (vals.set k (.hs H.length 0 0)) ys := by
              have hvm := hv.mono (fresh_le hnb ⟨0, 0, sz, 0, 0, true⟩)
              refine ⟨by rw [List.length_set]; exact hv.1, fun j c y hc hy => ?_⟩
              rw [List.getElem?_set] at hc
              split at hc
              · rename_i e; subst e
                split at hc
                · simp at hc; subst hc
                  have := (hv.2 k _ y hk hy).v_eq
                  subst this
                  exact .hsnil none fresh_at (Nat.le_refl 0) rfl
                · simp at hc
              · exact hvm.2 j c y hc hy
            obtain ⟨φ', h1, h2, h3, h4, h5⟩ := ih h hv1 hR1 (fun j hj => by
              simp only [List.length_append, List.length_singleton] at hj
              exact fresh_none (m := 0) (hn j (by omega)) (.inr (by omega)))
            simp only [List.length_append, List.length_singleton] at h1 h5
            refine ⟨φ', fun j hj => ?_, h2, h3, h4, by omega⟩
            rw [h1 j (by omega)]
            have : j ≠ H.length := by omega
            simp [fresh, this]
          · simp at h
        · simp at h
      · exact ih h hv hR hn
      · simp at h
    · split at h
      · rename_i i hk
        split at h
        · rename_i cs hcs
          split at h
          · rename_i hc
            split at h
            · rename_i sz z hsz hz
              split at h
              · rename_i hzl
                have hil : i < H.length := by
                  refine Nat.lt_of_not_le fun hle => ?_
                  unfold getH at hcs
                  rw [List.getElem?_eq_none hle] at hcs
                  simp at hcs
                have hR1 := hR0 sz z hzl
                have hcs1 : getH (H ++ [some (Blk.arr sz 0 fun _ => z)]) i = some (.row cs) := by
                  rw [hg]
                  have : i ≠ H.length := by omega
                  simp [updG, this, hcs]
                have hR2 := hR1.setRow (x' := .hs H.length 0 0) hcs1 hc (fun y hy => by
                  have := hy.v_eq
                  subst this
                  exact .hsnil none fresh_at (Nat.le_refl 0) rfl)
                obtain ⟨φ', h1, h2, h3, h4, h5⟩ := ih h (hv.mono (fresh_le hnb ⟨0, 0, sz, 0, 0, true⟩)) hR2 (fun j hj => by
                  simp only [List.length_set, List.length_append, List.length_singleton] at hj
                  exact fresh_none (m := 0) (hn j (by omega)) (.inr (by omega)))
                simp only [List.length_set, List.length_append, List.length_singleton] at h1 h5
                refine ⟨φ', fun j hj => ?_, h2, h3, h4, by omega⟩
                rw [h1 j (by omega)]
                have : j ≠ H.length := by omega
                simp [fresh, this]
              · simp at h
            · simp at h
          · exact ih h hv hR hn
          · simp at h
        · simp at h
      · exact ih h hv hR hn
      · simp at h

theorem getD_map {l : List Nat} {f : Nat → Value} {t : Nat} {d : Value} (h : t ∈ l) : (l.map f).getD (posIn t l) d = f t := by
  have := posIn_get h
  rw [List.getD_eq_getElem?_getD, List.getElem?_map, this]; rfl
theorem VL.getD {xs : List AV} {ys : List Value} (h : VL σ φ xs ys) (j : Nat) (d : Value) : V σ φ (xs.getD j .any) (ys.getD j d) := by
  have hl := h.1
  by_cases hj : j < xs.length
  · have h1 : xs[j]? = some xs[j] := by simp [hj]
    have h2 : ys[j]? = some (ys[j]'(by omega)) := by simp
    rw [List.getD_eq_getElem?_getD, List.getD_eq_getElem?_getD, h1, h2]
    exact h.2 j _ _ h1 h2
  · rw [List.getD_eq_getElem?_getD, List.getElem?_eq_none (by omega)]; exact V_any _
theorem expand_FR {a : Act} {live : List Nat} {vals : List AV} (h : VL σ φ vals (live.map fun t => a.tmps.getD t undef)) : FR σ φ (expand a.tmps.size live vals) a := by
  refine ⟨by simp [expand], fun t => ?_⟩
  by_cases ht : t < a.tmps.size
  · have : (expand a.tmps.size live vals).getD t .any = (match memN t live with | true => vals.getD (posIn t live) .any | false => .any) := by
      rw [List.getD_eq_getElem?_getD]
      simp only [expand, List.getElem?_map, List.getElem?_range ht, Option.map_some, Option.getD_some]
      rfl
    rw [this]
    split
    · rename_i hm
      have := h.getD (posIn t live) undef
      rw [getD_map (memN_iff.1 hm)] at this
      exact this
    · exact V_any _
  · have : (expand a.tmps.size live vals).getD t .any = .any := by
      rw [List.getD_eq_getElem?_getD, List.getElem?_eq_none (by simp [expand]; omega)]; rfl
    rw [this]; exact V_any _
theorem cleanV_ok {get : Get} {x : AV} {v : Value} (h : V σ φ x v) : V σ φ (cleanV get x) v := by
  unfold cleanV
  split
  · exact h
  · split
    · exact h
    · exact V_any _
theorem live_VL {fr : List AV} {a : Act} {get : Get} (h : FR σ φ fr a) (live : List Nat) : VL σ φ (live.map fun t => cleanV get (fr.getD t .any)) (live.map fun t => a.tmps.getD t undef) :=
  ⟨by simp, fun j c y hc hy => by
    simp only [List.getElem?_map, Option.map_eq_some_iff] at hc hy
    obtain ⟨t, ht, rfl⟩ := hc
    obtain ⟨t', ht', rfl⟩ := hy
    rw [ht] at ht'; cases ht'
    exact cleanV_ok (h.2 t)⟩

theorem head_ok {live : List Nat} {nils : List (Nat × TypeId)} {fr : List AV} {H : Heap} {vals : List AV} {H' : Heap} {a : Act} (h : headE P m live nils fr H = some (vals, H')) (hI : Inv κ m σ φ fr H a w) :
    ∃ φ', (∀ k, k < m → φ' k = φ k) ∧ Inv κ m σ φ' (expand a.tmps.size live vals) H' a w := by
  unfold headE at h
  split at h
  · rename_i vals1 H1 hb
    obtain ⟨φ1, h1, h2, h3, h4, h5⟩ := boxNils_ok hb (live_VL hI.F live) hI.R hI.none
    obtain ⟨φ2, k1, k2, k3, k4, k5⟩ := canon_ok h h2 h3
    exact ⟨φ2, fun k hk => (k1 k hk).trans (h1 k (Nat.lt_of_lt_of_le hk hI.len)), k5, expand_FR k2, k3, k4⟩
  · simp at h

def AEx.to : AEx → Exit
  | .normal => .normal
  | .exit id => .exit id
  | .ret => .ret

def LoopOK (P : Program) (Γ : Nat → AV) (m N : Nat) (body : Code) (ls : LSpec) : Prop :=
  ∀ vals H o, (ls.spec vals H).get = some o → ∀ (κ : Ctx) (σ : Store) (φ : Places) (a : Act) (w : World) (Q : Exit → Act → World → Prop), Globals Γ σ → a.tmps.size = N →
    Inv κ m σ φ (expand N ls.live vals) H a w →
    (∀ a' w' σ' φ', σ.le σ' → (∀ k, k < m → φ' k = φ k) → a'.defers = a.defers → a'.tmps.size = N → Inv κ m σ' φ' (expand N ls.live o.fr) o.H a' w' → Q o.ex.to a' w') →
    (Code.loop body).wp P Q a w

theorem Inv.tmps {fr : List AV} {H : Heap} {a : Act} (h : Inv κ m σ φ fr H a w) : a.tmps.size = fr.length := h.F.1.symm

theorem nloops_len : ∀ c : Code, (loopBodies c).length = nloops c := by
  intro c
  induction c with
  | seq a b ia ib => simp [loopBodies, nloops, ia, ib]
  | cond c a b ia ib => simp [loopBodies, nloops, ia, ib]
  | block id b ib => simp [loopBodies, nloops, ib]
  | loop b ib => simp [loopBodies, nloops, ib]
  | _ => rfl

theorem code_ok {L : Nat → LSpec} {N : Nat} : ∀ (c : Code) (k : Nat) (fr : List AV) (H : Heap) (o : Out) (σ : Store) (φ : Places) (a : Act) (w : World) (Q : Exit → Act → World → Prop),
    (∀ (j : Nat) (b : Code), (loopBodies c)[j]? = some b → LoopOK P Γ m N b (L (k + j))) → (codeE T L ip m k c fr H).get = some o → Inv κ m σ φ fr H a w → Globals Γ σ → fr.length = N →
    (∀ a' w' σ' φ', σ.le σ' → (∀ k, k < m → φ' k = φ k) → a'.defers = a.defers → o.fr.length = N → Inv κ m σ' φ' o.fr o.H a' w' → Q o.ex.to a' w') → c.wp P Q a w := by
  intro c
  induction c with
  | skip =>
    intro k fr H o σ φ a w Q hL h hI hG hN hQ
    simp only [codeE, Tree.get, Option.some.injEq] at h
    subst h
    exact wp_skip (hQ a w σ φ (Store.le_refl σ) (fun _ _ => rfl) rfl hN hI)
  | region id ops draw =>
    intro k fr H o σ φ a w Q hL h hI hG hN hQ
    simp only [codeE] at h
    obtain ⟨s, hs, ho⟩ := Tree.get_bind_some h
    simp only [Tree.get, Option.some.injEq] at ho
    subst ho
    cases draw with
    | true => exact draw_ok hs hI hG fun a' w' σ' φ' e1 e2 e3 hI' => hQ a' w' σ' φ' e1 e2 e3 (by
        exact (draw_len hs).trans hN) hI'
    | false => exact region_ok hs hI hG fun a' w' σ' φ' e1 e2 e3 hI' => hQ a' w' σ' φ' e1 e2 e3 ((region_len hs).trans hN) hI'
  | seq x y ix iy =>
    intro k fr H o σ φ a w Q hL h hI hG hN hQ
    simp only [codeE] at h
    obtain ⟨o1, h1, h2⟩ := Tree.get_bind_some h
    refine wp_seq (ix k fr H o1 σ φ a w _ (fun j b hj => hL j b (by
      have hlt := (List.getElem?_eq_some_iff.1 hj).1
      simp only [loopBodies]; rw [List.getElem?_append_left hlt]; exact hj)) h1 hI hG hN ?_)
    intro a' w' σ' φ' e1 e2 e3 e4 hI'
    cases hex : o1.ex with
    | normal =>
      rw [hex] at h2
      simp only [AEx.to, Exit.then]
      refine iy (k + nloops x) o1.fr o1.H o σ' φ' a' w' Q (fun j b hj => by
        have := hL (nloops x + j) b (by simp only [loopBodies]; rw [List.getElem?_append_right (by rw [nloops_len]; omega), nloops_len, Nat.add_sub_cancel_left]; exact hj)
        rwa [← Nat.add_assoc] at this) h2 hI' (hG.mono e1) e4 fun a'' w'' σ'' φ'' f1 f2 f3 f4 hI'' =>
          hQ a'' w'' σ'' φ'' (Store.le_trans e1 f1) (fun k hk => (f2 k hk).trans (e2 k hk)) (f3.trans e3) f4 hI''
    | exit id =>
      rw [hex] at h2
      simp only [Tree.get, Option.some.injEq] at h2
      subst h2
      have := hQ a' w' σ' φ' e1 e2 e3 e4 hI'
      rw [hex] at this
      simpa [AEx.to, Exit.then] using this
    | ret =>
      rw [hex] at h2
      simp only [Tree.get, Option.some.injEq] at h2
      subst h2
      have := hQ a' w' σ' φ' e1 e2 e3 e4 hI'
      rw [hex] at this
      simpa [AEx.to, Exit.then] using this
  | cond c x y ix iy =>
    intro k fr H o σ φ a w Q hL h hI hG hN hQ
    have hx : ∀ (j : Nat) (b : Code), (loopBodies x)[j]? = some b → LoopOK P Γ m N b (L (k + j)) := fun j b hj => hL j b (by
      have hlt := (List.getElem?_eq_some_iff.1 hj).1
      simp only [loopBodies]; rw [List.getElem?_append_left hlt]; exact hj)
    have hy : ∀ (j : Nat) (b : Code), (loopBodies y)[j]? = some b → LoopOK P Γ m N b (L (k + nloops x + j)) := fun j b hj => by
      have := hL (nloops x + j) b (by simp only [loopBodies]; rw [List.getElem?_append_right (by rw [nloops_len]; omega), nloops_len, Nat.add_sub_cancel_left]; exact hj)
      rwa [← Nat.add_assoc] at this
    have hv := hI.F.eval hG c
    simp only [codeE] at h
    split at h
    · rename_i hc
      rw [hc] at hv
      exact wp_cond_true hv.v_eq (ix k fr H o σ φ a w Q hx h hI hG hN hQ)
    · rename_i hc
      rw [hc] at hv
      exact wp_cond_false hv.v_eq (iy _ fr H o σ φ a w Q hy h hI hG hN hQ)
    · rename_i b hc
      rw [hc] at hv
      cases b with
      | true => exact wp_cond_true hv.sb_eq (ix k fr H o σ φ a w Q hx h hI hG hN hQ)
      | false => exact wp_cond_false hv.sb_eq (iy _ fr H o σ φ a w Q hy h hI hG hN hQ)
    · simp [Tree.get] at h
  | block id c ic =>
    intro k fr H o σ φ a w Q hL h hI hG hN hQ
    simp only [codeE] at h
    obtain ⟨o1, h1, h2⟩ := Tree.get_bind_some h
    refine wp_block (ic k fr H o1 σ φ a w _ hL h1 hI hG hN ?_)
    intro a' w' σ' φ' e1 e2 e3 e4 hI'
    cases hex : o1.ex with
    | normal =>
      rw [hex] at h2
      simp only [Tree.get, Option.some.injEq] at h2
      subst h2
      have := hQ a' w' σ' φ' e1 e2 e3 e4 hI'
      rw [hex] at this
      simpa [AEx.to, Exit.inBlock] using this
    | exit j =>
      rw [hex] at h2
      simp only [AEx.to, Exit.inBlock]
      simp only at h2
      split at h2
      · rename_i hb
        have := Nat.eq_of_beq_eq_true hb
        rw [if_pos this]
        simp only [Tree.get, Option.some.injEq] at h2
        subst h2
        exact hQ a' w' σ' φ' e1 e2 e3 e4 hI'
      · rename_i hb
        have hne : j ≠ id := fun e => by rw [e, Nat.beq_refl] at hb; simp at hb
        rw [if_neg hne]
        simp only [Tree.get, Option.some.injEq] at h2
        subst h2
        have := hQ a' w' σ' φ' e1 e2 e3 e4 hI'
        rw [hex] at this
        exact this
    | ret =>
      rw [hex] at h2
      simp only [Tree.get, Option.some.injEq] at h2
      subst h2
      have := hQ a' w' σ' φ' e1 e2 e3 e4 hI'
      rw [hex] at this
      simpa [AEx.to, Exit.inBlock] using this
  | loop c ic =>
    intro k fr H o σ φ a w Q hL h hI hG hN hQ
    simp only [codeE] at h
    split at h
    · rename_i vals H' hh
      obtain ⟨o1, h1, h2⟩ := Tree.get_bind_some h
      simp only [Tree.get, Option.some.injEq] at h2
      subst h2
      obtain ⟨φ', e1, hI1⟩ := head_ok hh hI
      have hsz : a.tmps.size = N := by rw [hI.tmps]; exact hN
      rw [hsz] at hI1
      have hl := hL 0 c (by simp [loopBodies])
      refine hl vals H' o1 (by simpa using h1) κ σ φ' a w Q hG hsz (by simpa using hI1) fun a' w' σ' φ'' f1 f2 f3 f4 hI' => ?_
      have := hQ a' w' σ' φ'' f1 (fun k hk => (f2 k hk).trans (e1 k hk)) f3 (by simp [expand, hN]) (by simpa [hN] using hI')
      exact this
    · simp [Tree.get] at h
  | exit id =>
    intro k fr H o σ φ a w Q hL h hI hG hN hQ
    simp only [codeE, Tree.get, Option.some.injEq] at h
    subst h
    exact wp_exit (hQ a w σ φ (Store.le_refl σ) (fun _ _ => rfl) rfl hN hI)
  | ret =>
    intro k fr H o σ φ a w Q hL h hI hG hN hQ
    simp only [codeE, Tree.get, Option.some.injEq] at h
    subst h
    exact wp_ret (hQ a w σ φ (Store.le_refl σ) (fun _ _ => rfl) rfl hN hI)
  | _ => intro k fr H o σ φ a w Q hL h; simp [codeE, Tree.get] at h
end
end Go.Eng

namespace Go.Eng
open Go

inductive AV.le : AV → AV → Prop
  | refl (x) : AV.le x x
  | any (x) : AV.le x .any
  | sb (b) : AV.le (.sb b) (.v (.bool b))
  | bs (b) : AV.le (.v (.bool b)) (.sb b)
  | tup {xs ys : List AV} (hl : xs.length = ys.length) (h : ∀ (j : Nat) (x y : AV), xs[j]? = some x → ys[j]? = some y → AV.le x y) : AV.le (.tup xs) (.tup ys)
  | agg {xs ys : List AV} (hl : xs.length = ys.length) (h : ∀ (j : Nat) (x y : AV), xs[j]? = some x → ys[j]? = some y → AV.le x y) : AV.le (.agg xs) (.agg ys)
  | sl {sz n : Nat} {f f' : Nat → List AV} (h : ∀ (e : Nat) (j : Nat) (x y : AV), e < n → (f e)[j]? = some x → (f' e)[j]? = some y → AV.le x y) (hl : ∀ e, (f' e).length = sz) (hk : n = 0 → mkd (f n) = false → mkd (f' n) = false) : AV.le (.sl sz n f) (.sl sz n f')
  | nil {sz : Nat} {f : Nat → List AV} (hl : ∀ e, (f e).length = sz) (hk : mkd (f 0) = false) : AV.le (.v (.slice none 0 0)) (.sl sz 0 f)
def LeL : List AV → List AV → Prop
  | [], [] => True
  | x :: xs, y :: ys => AV.le x y ∧ LeL xs ys
  | _, _ => False
inductive BLe : Blk → Blk → Prop
  | refl (b) : BLe b b
  | arr {sz n : Nat} {f f' : Nat → List AV} (h : ∀ e, e < n → LeL (f e) (f' e)) (hl : ∀ e, (f' e).length = sz) : BLe (.arr sz n f) (.arr sz n f')
  | row {cs cs' : List AV} (h : LeL cs cs') : BLe (.row cs) (.row cs')
  | mp {cels : List Cel} {ka va : Bool} {n : Nat} {has has' : List KC → Bool} {val val' : List KC → List AV} (h : ∀ k, has k = has' k) (hv : ∀ k, has k = true → LeL (val k) (val' k)) : BLe (.mp cels ka va n has val) (.mp cels ka va n has' val')
inductive OLe : Option Blk → Option Blk → Prop
  | none (x) : OLe x none
  | some {b b'} (h : BLe b b') : OLe (some b) (some b')
def LeH : Heap → Heap → Prop
  | [], [] => True
  | x :: xs, y :: ys => OLe x y ∧ LeH xs ys
  | _, _ => False
@[simp] theorem OLe_none (x : Option Blk) : OLe x none := .none x
theorem OLe.refl (x : Option Blk) : OLe x x := by cases x with
  | none => exact .none _
  | some b => exact .some (.refl b)
theorem OLe.of_eq {x y : Option Blk} (h : x = y) : OLe x y := h ▸ .refl x
@[simp] theorem OLe_refl (x : Option Blk) : OLe x x := .refl x
theorem LeL.refl : ∀ xs : List AV, LeL xs xs
  | [] => trivial
  | x :: xs => ⟨.refl x, LeL.refl xs⟩
theorem OLe.arrLe {sz n n' : Nat} {f f' : Nat → List AV} (hn : n = n') (h : ∀ e, e < n → LeL (f e) (f' e)) (hl : ∀ e, (f' e).length = sz) : OLe (Option.some (.arr sz n f)) (Option.some (.arr sz n' f')) := by
  subst hn; exact .some (.arr h hl)
theorem OLe.arr {sz n n' : Nat} {f f' : Nat → List AV} (hn : n = n') (h : ∀ e, e < n → f e = f' e) (hl : ∀ e, (f' e).length = sz) : OLe (Option.some (.arr sz n f)) (Option.some (.arr sz n' f')) := by
  subst hn; exact .some (.arr (fun e he => h e he ▸ LeL.refl _) hl)
theorem OLe.row {cs cs' : List AV} (h : LeL cs cs') : OLe (Option.some (.row cs)) (Option.some (.row cs')) := .some (.row h)
theorem OLe.mp {cels : List Cel} {ka va : Bool} {n n' : Nat} {has has' : List KC → Bool} {val val' : List KC → List AV} (hn : n = n') (h : ∀ k, has k = has' k) (hv : ∀ k, has k = true → LeL (val k) (val' k)) : OLe (Option.some (.mp cels ka va n has val)) (Option.some (.mp cels ka va n' has' val')) := by
  subst hn; exact .some (.mp h hv)
theorem AV.le.of_eq {x y : AV} (h : x = y) : AV.le x y := h ▸ .refl x
@[simp] theorem AV.le_any (x : AV) : AV.le x .any := .any x
@[simp] theorem AV.le_refl (x : AV) : AV.le x x := .refl x
@[simp] theorem LeL_nil : LeL [] [] = True := rfl
@[simp] theorem LeL_cons {x y : AV} {xs ys : List AV} : LeL (x :: xs) (y :: ys) = (AV.le x y ∧ LeL xs ys) := rfl
@[simp] theorem LeH_nil : LeH [] [] = True := rfl
@[simp] theorem LeH_cons {x y : Option Blk} {xs ys : Heap} : LeH (x :: xs) (y :: ys) = (OLe x y ∧ LeH xs ys) := rfl
theorem LeH.refl : ∀ xs : Heap, LeH xs xs
  | [] => trivial
  | x :: xs => ⟨.refl x, LeH.refl xs⟩

theorem LeL.pt : ∀ {xs ys : List AV}, LeL xs ys → ∀ (j : Nat) (x y : AV), xs[j]? = some x → ys[j]? = some y → AV.le x y
  | [], _, _, j, x, y, hx, _ => by simp at hx
  | _ :: _, [], h, _, _, _, _, _ => h.elim
  | a :: xs, b :: ys, h, 0, x, y, hx, hy => by
    simp only [List.getElem?_cons_zero, Option.some.injEq] at hx hy
    subst hx; subst hy; exact h.1
  | a :: xs, b :: ys, h, j + 1, x, y, hx, hy => LeL.pt h.2 j x y (by simpa using hx) (by simpa using hy)
section
variable {P : Program} {Γ : Nat → AV} {κ : Ctx} {m : Nat} {σ : Store} {φ : Places} {w : World} {ip : Bool} {T : List (CT P Γ)}

theorem AV.le.v0 {x y : AV} (h : AV.le x y) {v : Value} (hv : V0 σ x v) : V0 σ y v := by
  induction h generalizing v with
  | refl => exact hv
  | any => exact .any v
  | sb b => cases hv; exact .v _
  | bs b => cases hv; exact .sb b
  | tup hl h ih => cases hv
  | agg hl h ih => cases hv
  | @sl sz n f f' h hl hk ih =>
    cases hv with
    | sl _ _ _ ad cap ys hs hn hl' hm ho hv' =>
      have key : ∀ (e j : Nat) (c : AV), (f' e)[j]? = some c → ∃ d, (f e)[j]? = some d := fun e j c hc => by
        have hj : j < (f e).length := by rw [hl', ← hl e]; exact (List.getElem?_eq_some_iff.1 hc).1
        exact ⟨_, List.getElem?_eq_getElem hj⟩
      refine .sl sz n f' ad cap ys hs hn hl (fun e j c he hc => ?_) (fun e j c he hc => ?_) (fun e j c he hc => ?_)
      · obtain ⟨d, hd⟩ := key e j c hc
        exact hm e j d he hd
      · obtain ⟨d, hd⟩ := key e j c hc
        exact ho e j d he hd
      · obtain ⟨d, hd⟩ := key e j c hc
        exact ih e j d c he hd hc (hv' e j d he hd)
    | slnil _ _ _ A cap hl' hn ha => exact .slnil sz n f' A cap hl hn fun hA => hk hn (ha hA)
  | @nil sz f hl hk => cases hv; exact .slnil sz 0 f none 0 hl rfl fun _ => hk
theorem AV.le.v {x y : AV} (h : AV.le x y) {v : Value} (hv : V σ φ x v) : V σ φ y v := by
  induction h generalizing v with
  | refl => exact hv
  | any => exact V_any v
  | sb b => rw [hv.sb_eq]; exact V_v _
  | bs b => rw [hv.v_eq]; exact V_sb b
  | tup hl h ih =>
    obtain ⟨zs, rfl, h1, h2⟩ := hv.tup_inv
    refine .tup (by rw [← hl]; exact h1) fun j c y hc hy => ?_
    rename_i xs ys
    have hj : j < xs.length := by rw [hl]; exact (List.getElem?_eq_some_iff.1 hc).1
    exact ih j xs[j] c (by simp [hj]) hc (h2 j xs[j] y (by simp [hj]) hy)
  | agg hl h ih =>
    obtain ⟨zs, rfl, h1, h2⟩ := hv.agg_inv
    refine .agg (by rw [← hl]; exact h1) fun j c y hc hy => ?_
    rename_i xs ys
    have hj : j < xs.length := by rw [hl]; exact (List.getElem?_eq_some_iff.1 hc).1
    exact ih j xs[j] c (by simp [hj]) hc (h2 j xs[j] y (by simp [hj]) hy)
  | sl h hl hk ih =>
    cases hv with
    | base h0 => exact .base (AV.le.v0 (.sl h hl hk) h0)
  | nil hl hk =>
    cases hv with
    | base h0 => exact .base (AV.le.v0 (.nil hl hk) h0)
theorem LeL.len : ∀ {xs ys : List AV}, LeL xs ys → xs.length = ys.length
  | [], [], _ => rfl
  | _ :: _, _ :: _, h => by simp [LeL.len h.2]
  | [], _ :: _, h => h.elim
  | _ :: _, [], h => h.elim
theorem LeL.get : ∀ {xs ys : List AV}, LeL xs ys → ∀ j, AV.le (xs.getD j .any) (ys.getD j .any)
  | [], [], _, _ => .refl _
  | _ :: _, _ :: _, h, 0 => h.1
  | _ :: _, _ :: _, h, j + 1 => by simpa using LeL.get h.2 j
  | [], _ :: _, h, _ => h.elim
  | _ :: _, [], h, _ => h.elim
theorem LeH.len : ∀ {xs ys : Heap}, LeH xs ys → xs.length = ys.length
  | [], [], _ => rfl
  | _ :: _, _ :: _, h => by simp [LeH.len h.2]
  | [], _ :: _, h => h.elim
  | _ :: _, [], h => h.elim
theorem LeH.get : ∀ {xs ys : Heap}, LeH xs ys → ∀ j b', getH ys j = some b' → ∃ b, getH xs j = some b ∧ BLe b b'
  | [], [], _, _, _, h => by simp [getH] at h
  | x :: xs, y :: ys, h, 0, b', hb => by
    have hy : y = some b' := by simpa [getH] using hb
    subst hy
    cases h.1 with
    | some hle => exact ⟨_, by simp [getH], hle⟩
  | x :: xs, y :: ys, h, j + 1, b, hb => by
    have : getH ys j = some b := by simpa [getH] using hb
    have := LeH.get h.2 j b this
    simpa [getH] using this
  | [], _ :: _, h, _, _, _ => h.elim
  | _ :: _, [], h, _, _, _ => h.elim
theorem LeL.at : ∀ {xs ys : List AV}, LeL xs ys → ∀ (j : Nat) (y : AV), ys[j]? = some y → ∃ x, xs[j]? = some x ∧ AV.le x y
  | [], [], _, j, y, h => by simp at h
  | x :: xs, z :: ys, h, 0, y, hy => by
    simp only [List.getElem?_cons_zero, Option.some.injEq] at hy
    subst hy
    exact ⟨x, rfl, h.1⟩
  | x :: xs, z :: ys, h, j + 1, y, hy => by
    obtain ⟨x', h1, h2⟩ := LeL.at h.2 j y (by simpa using hy)
    exact ⟨x', by simpa using h1, h2⟩
  | [], _ :: _, h, _, _, _ => h.elim
  | _ :: _, [], h, _, _, _ => h.elim
theorem LeL.mv {va : Bool} {xs ys : List AV} (h : LeL xs ys) {v : Value} (hv : mvAt σ va xs v) : mvAt σ va ys v := by
  cases va with
  | true =>
    obtain ⟨zs, rfl, h1, h2⟩ := hv
    refine ⟨zs, rfl, by rw [← h1, h.len], fun j c y hc hy => ?_⟩
    obtain ⟨x, k1, k2⟩ := h.at j c hc
    exact k2.v0 (h2 j x y k1 hy)
  | false =>
    obtain ⟨z, rfl, h2⟩ := hv
    match ys, h with
    | [y], h => exact ⟨y, rfl, h.1.v0 h2⟩
    | [], h => exact h.elim
    | _ :: _ :: _, h => exact h.2.elim
theorem BLe.at {L : Lc} {b b' : Blk} (h : BLe b b') (hb : blkAt σ φ w L b) : blkAt σ φ w L b' := by
  cases h with
  | refl => exact hb
  | arr h hl =>
    obtain ⟨h1, h2, c, h3, h4, h5, h6⟩ := hb
    refine ⟨h1, h2, c, h3, h4, h5, fun e he => ⟨(hl e), fun j x hx => ?_⟩⟩
    obtain ⟨x0, k1, k2⟩ := (h e he).at j x hx
    obtain ⟨y, k3, k4, k5⟩ := (h6 e he).2 j x0 k1
    exact ⟨y, k3, k4, k2.v0 k5⟩
  | row h =>
    obtain ⟨c, h3, h4, h5, h6⟩ := hb
    refine ⟨c, h3, h4, by rw [← h.len]; exact h5, fun j x hx => ?_⟩
    obtain ⟨x0, k1, k2⟩ := h.at j x hx
    obtain ⟨y, k3, k4⟩ := h6 j x0 k1
    exact ⟨y, k3, k2.v k4⟩
  | mp h hv =>
    obtain ⟨es, clock, h1, h2, h3, h4, h5⟩ := hb
    refine ⟨es, clock, h1, h2, h3, fun e he => ?_, fun k k1 k2 => h5 k k1 (by rw [h]; exact k2)⟩
    obtain ⟨k, k1, k2, k3, k4⟩ := h4 e he
    exact ⟨k, k1, k2, by rw [← h]; exact k3, (hv k k3).mv k4⟩
theorem R.le {get get' : Get} (h : R κ σ φ get w) (hs : ∀ i b', get' i = some b' → ∃ b, get i = some b ∧ BLe b b') : R κ σ φ get' w where
  cell := h.cell
  apart := fun i L hi hv hg o => by
    cases hb : get' i with
    | none => rw [hb] at hg; simp at hg
    | some b' =>
      obtain ⟨b, h1, _⟩ := hs i b' hb
      exact h.apart i L hi hv (by simp [h1]) o
  obj := fun i blk L hg hi hv => by
    obtain ⟨b, h1, h2⟩ := hs i blk hg
    exact h2.at (h.obj i b L h1 hi hv)
  dis := fun i j Li Lj hne hgi hgj => by
    cases hb : get' i with
    | none => rw [hb] at hgi; simp at hgi
    | some bi =>
      cases hb' : get' j with
      | none => rw [hb'] at hgj; simp at hgj
      | some bj =>
        obtain ⟨b, h1, _⟩ := hs i bi hb
        obtain ⟨b', h1', _⟩ := hs j bj hb'
        exact h.dis i j Li Lj hne (by simp [h1]) (by simp [h1'])
  lt := h.lt
  tape := h.tape
  os := h.os
  output := h.output
  grow := h.grow
  old := h.old
  store := h.store
  mine := h.mine
  base := h.base
  wf := fun i b' hg => by
    obtain ⟨b, h1, h2⟩ := hs i b' hg
    cases h2 with
    | refl => exact h.wf i _ h1
    | arr _ hl => exact hl
    | row _ => trivial
    | mp _ _ => trivial
  len := fun i L sz n f hg hi => by
    obtain ⟨b, h1, h2⟩ := hs i _ hg
    cases h2 with
    | refl => exact h.len i L _ _ _ h1 hi
    | arr _ _ => exact h.len i L _ _ _ h1 hi

theorem FR.le {fr fr' : List AV} {a : Act} (h : FR σ φ fr a) (hl : fr'.length = fr.length) (hle : ∀ t, AV.le (fr.getD t .any) (fr'.getD t .any)) : FR σ φ fr' a :=
  ⟨by rw [hl]; exact h.1, fun t => (hle t).v (h.2 t)⟩
theorem expand_getD {N : Nat} {live : List Nat} {vals : List AV} {t : Nat} (ht : t < N) : (expand N live vals).getD t .any = (match memN t live with | true => vals.getD (posIn t live) .any | false => .any) := by
  rw [List.getD_eq_getElem?_getD]
  simp only [expand, List.getElem?_map, List.getElem?_range ht, Option.map_some, Option.getD_some]
  rfl
theorem expand_len {N : Nat} {live : List Nat} {vals : List AV} : (expand N live vals).length = N := by simp [expand]
theorem expand_le {N : Nat} {live : List Nat} {vals vals' : List AV} (h : LeL vals vals') (t : Nat) : AV.le ((expand N live vals).getD t .any) ((expand N live vals').getD t .any) := by
  by_cases ht : t < N
  · rw [expand_getD ht, expand_getD ht]
    split
    · exact h.get _
    · exact .refl _
  · rw [List.getD_eq_getElem?_getD, List.getD_eq_getElem?_getD, List.getElem?_eq_none (by rw [expand_len]; omega), List.getElem?_eq_none (by rw [expand_len]; omega)]
    exact .refl _
theorem Inv.le {N : Nat} {live : List Nat} {vals vals' : List AV} {H H' : Heap} {a : Act} (h : Inv κ m σ φ (expand N live vals) H a w) (hv : LeL vals vals') (hh : LeH H H') : Inv κ m σ φ (expand N live vals') H' a w :=
  ⟨by rw [← hh.len]; exact h.len, h.F.le (by rw [expand_len, expand_len]) (expand_le hv), h.R.le hh.get, by rw [← hh.len]; exact h.none⟩

def roundE (T : List (CT P Γ)) (L : Nat → LSpec) (ip : Bool) (m k : Nat) (b : Code) (live : List Nat) (nils : List (Nat × TypeId)) (N : Nat) (vals : List AV) (H : Heap) : Tree Out :=
  (codeE T L ip m k b (expand N live vals) H).bind fun o => match headE P m live (match o.ex with
    | .normal => nils
    | _ => []) o.fr o.H with
    | some (vals, H) => .leaf ⟨o.ex, vals, H⟩
    | none => .fail

def Owes (spec : List AV → Heap → Tree Out) (μ : List AV → Heap → Nat) (n : Nat) (o r : Out) : Prop :=
  match r.ex with
  | .normal => ∃ v2 H2, LeL r.fr v2 ∧ LeH r.H H2 ∧ (spec v2 H2).get = some o ∧ μ v2 H2 < n
  | _ => r.ex = o.ex ∧ LeL r.fr o.fr ∧ LeH r.H o.H

theorem least {p : Nat → Prop} (h : ∃ n, p n) : ∃ n, p n ∧ ∀ k, p k → n ≤ k := by
  obtain ⟨n, hn⟩ := h
  induction n using Nat.strongRecOn with
  | _ n ih =>
    by_cases h : ∃ k, k < n ∧ p k
    · obtain ⟨k, hk, hp⟩ := h
      exact ih k hk hp
    · exact ⟨n, hn, fun k hk => Nat.le_of_not_lt fun hlt => h ⟨k, hlt, hk⟩⟩
open Classical in
noncomputable def leastN (p : Nat → Prop) : Nat := if h : ∃ n, p n then (least h).choose else 0
theorem leastN_mem {p : Nat → Prop} (h : ∃ n, p n) : p (leastN p) := by unfold leastN; rw [dif_pos h]; exact (least h).choose_spec.1
theorem leastN_le {p : Nat → Prop} {k : Nat} (h : p k) : leastN p ≤ k := by
  have h' : ∃ n, p n := ⟨k, h⟩
  unfold leastN; rw [dif_pos h']; exact (least h').choose_spec.2 k h

theorem loop_ok {L : Nat → LSpec} {N k : Nat} {b : Code} {ls : LSpec} (μ : List AV → Heap → Nat)
    (hL : ∀ (j : Nat) (b' : Code), (loopBodies b)[j]? = some b' → LoopOK P Γ m N b' (L (k + j)))
    (hr : ∀ vals H o, (ls.spec vals H).get = some o → (roundE T L ip m k b ls.live ls.nils N vals H).sat (Owes ls.spec μ (μ vals H) o)) : LoopOK P Γ m N b ls := by
  intro vals0 H0 o h0 κ σ0 φ0 a0 w0 Q hG0 hN0 hI0 hQ
  let J : Act → World → Nat → Prop := fun a w n => ∃ vals H σ φ, (ls.spec vals H).get = some o ∧ σ0.le σ ∧ (∀ k, k < m → φ k = φ0 k) ∧ a.defers = a0.defers ∧ a.tmps.size = N ∧
    Inv κ m σ φ (expand N ls.live vals) H a w ∧ μ vals H = n
  refine wp_loop (fun a w => ∃ n, J a w n) (fun a w => leastN (J a w)) ⟨_, vals0, H0, σ0, φ0, h0, Store.le_refl _, fun _ _ => rfl, rfl, hN0, hI0, rfl⟩ ?_
  intro a w hJ
  obtain ⟨vals, H, σ, φ, hs, e1, e2, e3, e4, hI, hn⟩ := leastN_mem hJ
  obtain ⟨r, hr1, hr2⟩ := Tree.sat_iff.1 (hr vals H o hs)
  unfold roundE at hr1
  obtain ⟨o1, ho1, ho2⟩ := Tree.get_bind_some hr1
  refine code_ok b k _ H o1 σ φ a w _ hL ho1 hI (hG0.mono e1) expand_len ?_
  intro a' w' σ' φ' f1 f2 f3 f4 hI'
  split at ho2
  · rename_i vals' H' hh
    simp only [Tree.get, Option.some.injEq] at ho2
    subst ho2
    obtain ⟨φ2, g1, hI2⟩ := head_ok hh hI'
    have hN' : a'.tmps.size = N := hI'.tmps.trans f4
    rw [hN'] at hI2
    unfold Owes at hr2
    cases hex : o1.ex with
    | normal =>
      simp only [hex] at hr2
      obtain ⟨v2, H2, k1, k2, k3, k4⟩ := hr2
      have hJ' : J a' w' (μ v2 H2) := ⟨v2, H2, σ', φ2, k3, Store.le_trans e1 f1, fun k hk => (g1 k hk).trans ((f2 k hk).trans (e2 k hk)), f3.trans e3, hN', hI2.le k1 k2, rfl⟩
      refine ⟨⟨_, hJ'⟩, Nat.lt_of_le_of_lt (leastN_le hJ') ?_⟩
      rw [← hn]; exact k4
    | exit id =>
      simp only [hex] at hr2
      obtain ⟨k1, k2, k3⟩ := hr2
      have := hQ a' w' σ' φ2 (Store.le_trans e1 f1) (fun k hk => (g1 k hk).trans ((f2 k hk).trans (e2 k hk))) (f3.trans e3) hN' (hI2.le k2 k3)
      rw [← k1] at this
      exact this
    | ret =>
      simp only [hex] at hr2
      obtain ⟨k1, k2, k3⟩ := hr2
      have := hQ a' w' σ' φ2 (Store.le_trans e1 f1) (fun k hk => (g1 k hk).trans ((f2 k hk).trans (e2 k hk))) (f3.trans e3) hN' (hI2.le k2 k3)
      rw [← k1] at this
      exact this
  · simp [Tree.get] at ho2
end
end Go.Eng

namespace Go.Eng
open Go

section
variable {P : Program} {Γ : Nat → AV} {κ : Ctx} {m : Nat} {σ : Store} {φ : Places} {w : World} {ip : Bool} {T : List (CT P Γ)}

theorem loadVar_of_loadAt {t : TypeId} {vp v : Value} (h : (Instr.loadAt t vp).run P w = .ok v w) : (do loadVar t (← asAddr vp)).run P w = .ok v w := by
  unfold Instr.loadAt at h
  cases vp with
  | pointer A =>
    cases A with
    | some ad => simpa [Instr.sureAddr, asAddr] using h
    | none => simp [Instr.sureAddr, stuck] at h
  | _ => simp [Instr.sureAddr, stuck] at h

def resultOf (tmps : Array Value) : ResultVar → Sem Value
  | .tmp t => pure (tmps.getD t undef)
  | .cell a t => do loadVar t (← asAddr (tmps.getD a undef))

theorem resV_ok {get : Get} {fr : List AV} {a : Act} (hF : FR σ φ fr a) (hR : R κ σ φ get w) : ∀ {rs : List ResultVar} {vs : List AV}, resV P get fr rs = some vs →
    ∃ ys : List Value, (rs.mapM (resultOf a.tmps)).run P w = .ok ys w ∧ VL σ φ vs ys := by
  intro rs
  induction rs with
  | nil =>
    intro vs h
    simp only [resV, Option.some.injEq] at h
    subst h
    exact ⟨[], by simp, rfl, by simp⟩
  | cons r rs ih =>
    intro vs h
    cases r with
    | tmp t =>
      simp only [resV] at h
      split at h
      · rename_i vs' h'
        simp only [Option.some.injEq] at h
        subst h
        obtain ⟨ys, h1, h2⟩ := ih h'
        refine ⟨a.tmps.getD t undef :: ys, by simp [List.mapM_cons, resultOf, h1], ?_⟩
        exact (show VL σ φ [fr.getD t .any] [a.tmps.getD t undef] from ⟨rfl, fun j c y hc hy => by
          cases j with
          | zero => simp at hc hy; subst hc; subst hy; simpa using hF.2 t
          | succ j => simp at hc⟩).append h2
      · simp at h
    | cell p t =>
      simp only [resV] at h
      split at h
      · rename_i v vs' hv h'
        simp only [Option.some.injEq] at h
        subst h
        obtain ⟨ys, h1, h2⟩ := ih h'
        obtain ⟨y, hy, hVy⟩ := loadE_ok hv (hF.2 p) hR
        refine ⟨y :: ys, ?_, ?_⟩
        · rw [List.mapM_cons, Sem.run_bind]
          have : (resultOf a.tmps (.cell p t)).run P w = .ok y w := loadVar_of_loadAt hy
          rw [this]
          simp [h1]
        · exact (show VL σ φ [v] [y] from ⟨rfl, fun j c z hc hz => by
            cases j with
            | zero => simp at hc hz; subst hc; subst hz; exact hVy
            | succ j => simp at hc⟩).append h2
      · simp at h

theorem oneOf_V {vs : List AV} {ys : List Value} (h : VL σ φ vs ys) : V σ φ (oneOf vs) (if h : ys.toArray.size = 1 then ys.toArray[0] else .tuple ys.toArray) := by
  have hl := h.1
  match vs, ys, h, hl with
  | [], [], h, _ => exact .tup rfl (by simp)
  | [x], [y], h, _ => simpa [oneOf] using h.2 0 x y rfl rfl
  | x :: x' :: xs, y :: y' :: ys, h, _ =>
    simp only [oneOf]
    rw [dif_neg (by simp)]
    refine .tup (by simpa using h.1) fun j c z hc hz => ?_
    exact h.2 j c z hc (by simpa using hz)
  | [], _ :: _, h, hl => simp at hl
  | _ :: _, [], h, hl => simp at hl
  | [_], _ :: _ :: _, h, hl => simp at hl
  | _ :: _ :: _, [_], h, hl => simp at hl

theorem results_ok {get : Get} {fr : List AV} {a : Act} {fn : Func} {vs : List AV} (hF : FR σ φ fr a) (hR : R κ σ φ get w) (h : resV P get fr fn.results.toList = some vs) :
    ∃ v, (results fn a.tmps).run P w = .ok v w ∧ V σ φ (oneOf vs) v := by
  obtain ⟨ys, h1, h2⟩ := resV_ok hF hR h
  refine ⟨_, ?_, oneOf_V h2⟩
  have he : results fn a.tmps = (fn.results.mapM (resultOf a.tmps) >>= fun vs => pure (if h : vs.size = 1 then vs[0] else .tuple vs)) := by
    unfold results
    refine congrArg (fun x => x >>= _) (congrArg (fun g => Array.mapM g fn.results) ?_)
    funext r; cases r <;> rfl
  rw [he, Sem.run_bind, Array.mapM_eq_mapM_toList, Sem.run_map, h1]
  simp [Result.andThen]

theorem frame0_FR {n : Nat} {args : List AV} {vals : Array Value} (h : VL σ φ args vals.toList) : FR σ φ (frame0 n args) { tmps := vals ++ Array.replicate (n - vals.size) undef, defers := [] } := by
  have hl : args.length = vals.size := by simpa using h.1
  refine ⟨by simp [frame0, hl], fun t => ?_⟩
  by_cases ht : t < args.length
  · have h1 : (frame0 n args).getD t .any = args.getD t .any := by
      simp only [frame0, List.getD_eq_getElem?_getD]; rw [List.getElem?_append_left ht]
    have h2 : (vals ++ Array.replicate (n - vals.size) undef).getD t undef = vals.toList.getD t undef := by
      rw [Array.getD_eq_getD_getElem?, List.getD_eq_getElem?_getD, Array.getElem?_append_left (by omega)]; simp
    rw [h1]
    show V σ φ _ ((vals ++ Array.replicate (n - vals.size) undef).getD t undef)
    rw [h2]
    exact h.getD t undef
  · have h1 : (frame0 n args).getD t .any = .any := by
      simp only [frame0, List.getD_eq_getElem?_getD]; rw [List.getElem?_append_right (by omega)]
      rw [List.getElem?_replicate]; split <;> rfl
    rw [h1]
    exact V_any _

theorem contract_of {f : FuncId} {fn : Func} {c : Code} (hf : P.funcs[f]? = some fn) (hb : fn.body = some c) (L : Nat → LSpec) {args : List AV} {Hin : List Blk} {r : Res}
    (hL : ∀ (j : Nat) (b : Code), (loopBodies c)[j]? = some b → LoopOK P Γ Hin.length fn.ntmps b (L j)) (hsz : args.length ≤ fn.ntmps)
    (h : (bodyE T L ip fn.ntmps fn.results.toList c args Hin).sat fun s => AV.le s.val r.val ∧ LeH s.H (r.heap Hin)) : Contract P Γ f args Hin r := by
  intro σ φ w vals hG hv hn hR
  obtain ⟨s, hs, hle, hleH⟩ := Tree.sat_iff.1 h
  unfold bodyE at hs
  obtain ⟨o, ho, hs⟩ := Tree.get_bind_some hs
  refine calls_of_wp hf hb ?_
  have hI : Inv ⟨w, σ, fun b => ∃ k L, φ k = some L ∧ L.virt = false ∧ L.b = b⟩ Hin.length σ φ (frame0 fn.ntmps args) (Hin.map some) { tmps := vals ++ Array.replicate (fn.ntmps - vals.size) undef, defers := [] } w :=
    ⟨by simp, frame0_FR hv, hR, fun k hk => hn k (by simpa using hk)⟩
  have hN : (frame0 fn.ntmps args).length = fn.ntmps := by simp [frame0]; omega
  refine code_ok c 0 _ _ o σ φ _ w _ (fun j b hj => by rw [Nat.zero_add]; exact hL j b hj) ho hI hG hN ?_
  intro a' w' σ' φ' e1 e2 e3 e4 hI'
  have key : (∃ v, (results fn a'.tmps).run P w' = .ok v w' ∧ ∃ σ' φ' v', Ending.returned v = .returned v' ∧ V σ' φ' r.val v' ∧
      R ⟨w, σ, fun b => ∃ k L, φ k = some L ∧ L.virt = false ∧ L.b = b⟩ σ' φ' (getH (r.heap Hin)) w' ∧ (∀ k, k < Hin.length → φ' k = φ k) ∧ (∀ k, (r.heap Hin).length ≤ k → φ' k = none)) ∨ ∃ id, o.ex = .exit id := by
    unfold ansE at hs
    split at hs
    · rename_i id hid; exact .inr ⟨id, hid⟩
    · split at hs
      · rename_i vs hvs
        obtain ⟨v, hv1, hv2⟩ := results_ok hI'.F hI'.R hvs
        split at hs
        · rename_i v2 H2 hc
          simp only [Tree.get, Option.some.injEq] at hs
          subst hs
          obtain ⟨φ2, k1, k2, k3, k4, k5⟩ := canon_ok (ys := [v]) hc ⟨rfl, fun j c y hc hy => by
            cases j with
            | zero => simp at hc hy; subst hc; subst hy; exact hv2
            | succ j => simp at hc⟩ hI'.R
          refine .inl ⟨v, hv1, σ', φ2, v, rfl, hle.v (k2.2 0 _ _ rfl rfl), k3.le hleH.get, fun k hk => (k1 k hk).trans (e2 k hk), fun k hk => k4 k (by rw [hleH.len]; exact hk)⟩
        · simp [Tree.get] at hs
      · simp [Tree.get] at hs
  cases hex : o.ex with
  | normal =>
    rcases key with ⟨v, k1, k2⟩ | ⟨id, hid⟩
    · exact ⟨e3, v, k1, k2⟩
    · rw [hex] at hid; simp at hid
  | ret =>
    rcases key with ⟨v, k1, k2⟩ | ⟨id, hid⟩
    · exact ⟨e3, v, k1, k2⟩
    · rw [hex] at hid; simp at hid
  | exit id =>
    unfold ansE at hs
    rw [hex] at hs
    simp [Tree.get] at hs
end
end Go.Eng

namespace Go.Eng
open Go

def OldSame (W W' : World) : Prop := W'.os = W.os ∧ W'.output = W.output ∧ ∀ b, b < W.heap.size → W'.heap[b]? = W.heap[b]?

def σof (W : World) : Store := fun b o => if b < W.heap.size then W.cell? ⟨b, o, none⟩ else none
theorem lt_of_cell {W : World} {b o : Nat} {y : Value} (h : W.cell? ⟨b, o, none⟩ = some y) : b < W.heap.size := by
  unfold World.cell? at h
  by_cases hb : b < W.heap.size
  · exact hb
  · have : W.heap[b]? = none := Array.getElem?_eq_none (by omega)
    simp [this] at h
theorem σof_of {W : World} {b o : Nat} {y : Value} (h : W.cell? ⟨b, o, none⟩ = some y) : σof W b o = some y := by
  unfold σof; rw [if_pos (lt_of_cell h)]; exact h
theorem σof_cell {W : World} {b o : Nat} {y : Value} (h : σof W b o = some y) : W.cell? ⟨b, o, none⟩ = some y ∧ b < W.heap.size := by
  unfold σof at h
  split at h
  · exact ⟨h, by assumption⟩
  · simp at h

section
variable {P : Program} {Γ : Nat → AV}

theorem R_start (W : World) : R ⟨W, σof W, fun b => ∃ (k : Nat) (L : Lc), (none : Option Lc) = some L ∧ L.virt = false ∧ L.b = b⟩ (σof W) (fun _ => none) (getH ([] : List (Option Blk))) W where
  cell := fun b o y hy => (σof_cell hy).1
  apart := fun i L hi => by simp at hi
  obj := fun i blk L _ hi => by simp at hi
  dis := fun i j Li Lj _ _ _ hi => by simp at hi
  lt := fun i L hi => by simp at hi
  tape := rfl
  os := rfl
  output := rfl
  grow := Nat.le_refl _
  old := fun _ _ _ => rfl
  store := fun b o y hy => .inl hy
  mine := fun i L hi => by simp at hi
  base := Store.le_refl _
  wf := fun i b h => by simp [getH] at h
  len := fun i L sz n f h => by simp [getH] at h

theorem VL.none {σ : Store} {φ : Places} : VL σ φ [] [] := ⟨rfl, fun j c y h => by simp at h⟩
theorem VL.one {σ : Store} {φ : Places} {x : AV} {y : Value} {xs : List AV} {ys : List Value} (h : V σ φ x y) (hs : VL σ φ xs ys) : VL σ φ (x :: xs) (y :: ys) :=
  ⟨by simp [hs.1], fun j c z hc hz => by
    cases j with
    | zero => simp at hc hz; subst hc; subst hz; exact h
    | succ j => exact hs.2 j c z (by simpa using hc) (by simpa using hz)⟩
theorem calls_true (c : CT P Γ) {xs : List AV} {vals : Array Value} {W : World} (h : (c.spec xs []).sat fun r => AV.le r.val (.v (.bool true))) (hG : Globals Γ (σof W))
    (hv : VL (σof W) (fun _ => none) xs vals.toList) : Calls P c.f vals W fun e W' => e = .returned (.bool true) ∧ OldSame W W' := by
  obtain ⟨r, hr, hle⟩ := Tree.sat_iff.1 h
  have := c.ok xs [] r hr (σof W) (fun _ => none) W vals hG hv (fun _ _ => rfl) (by simpa using R_start W)
  refine this.mono fun e W' ⟨σ', φ', v, he, hV, hR, _, _⟩ => ?_
  have hv' := (hle.v hV).v_eq
  subst hv'
  exact ⟨he, hR.os, hR.output, fun b hb => hR.old b hb (by simp)⟩
end

section
variable {H : Type} {enc : TypeId × Value → H} {P : Program} {W W' : World}

theorem OldSame.sameAt (h : OldSame W W') {p : MemPlace} (hp : p.block < W.heap.size) : W.sameAt W' p := by
  cases p with
  | cell b off =>
    show W'.cell? _ = W.cell? _
    unfold World.cell?
    rw [h.2.2 b hp]
  | map b => exact h.2.2 b hp
theorem TrodAll_carry {base : Nat} {sp : Nat → Bool} {held : Bool} : ∀ {ts : List TypeId} {vs : List Value} {ds : List (DataW H)} {ps : List MemPlace},
    DataW.TrodAll enc P W base sp held ts vs ds ps → (∀ p ∈ ps, W.sameAt W' p) → DataW.TrodAll enc P W' base sp held ts vs ds ps
  | [], [], [], _, h, _ => h
  | _ :: _, _ :: _, _ :: _, _, ⟨p, q, ⟨n, h1⟩, h2, e⟩, hs =>
    ⟨p, q, ⟨n, DataW.trod_carry n _ _ _ h1 fun x hx => hs x (by rw [e]; exact List.mem_append_left _ hx)⟩, TrodAll_carry h2 fun x hx => hs x (by rw [e]; exact List.mem_append_right _ hx), e⟩
  | [], _ :: _, _, _, h, _ => by simp [DataW.TrodAll] at h
  | [], [], _ :: _, _, h, _ => by simp [DataW.TrodAll] at h
  | _ :: _, [], _, _, h, _ => by simp [DataW.TrodAll] at h
  | _ :: _, _ :: _, [], _, h, _ => by simp [DataW.TrodAll] at h

theorem OldSame.kept (h : OldSame W W') (may : MemPlace → Prop) : W.keptBut W' may := by
  refine ⟨h.1, h.2.1, fun i hi => ?_⟩
  rw [h.2.2 i hi]
  cases ho : W.heap[i]? with
  | none => rfl
  | some o => cases o <;> simp

theorem post_true {f : Func} {s : ChangeSpec} {apart fresh handsOn again : Bool} {args : Array Value} {ds gs : List (DataW H)} {before : List MemPlace} {tb : TypeId}
    (hl : laidOutB P = true) (hm : mapsRowed P = true) (hz : ((List.range P.types.size).all fun t => match P.underlying t with | some (.slice e) => decide (0 < P.cellsOf e) | _ => true) = true)
    (hp : (f.params.toList.all fun t => decide (t < P.types.size)) = true) (hrt : f.resultTypes = #[tb]) (hb : P.underlying tb = some .bool)
    (hW : DataW.Whole enc P f.params.toList s.vars apart W args.toList ds gs before) (hvars : s.vars = [])
    (hfn : (s.fn H (ds ++ gs)) = { results := [.lit (.bool true)], args := ds }) (ho : OldSame W W') : s.post enc P f apart fresh handsOn again W args (.bool true) W' := by
  have hW0 := hW
  obtain ⟨p, q, hA, hV, rfl, hfz, hnd⟩ := hW
  rw [hvars] at hV
  obtain ⟨rfl, rfl⟩ := ChangeShapes.trodVars_none hV
  have hlt : ∀ x ∈ p, x.block < W.heap.size := fun x hx => hW0.lt x (by simp [hx])
  have hsz : ∀ t e, t < P.types.size → P.underlying t = some (.slice e) → 0 < P.cellsOf e := slices_full_of P hz
  have hres : ∀ (b : Nat) (sp : Nat → Bool) (hd : Bool), DataW.TrodAll enc P W' b sp hd f.resultTypes.toList ((Value.bool true).resultList f.resultTypes.size) (s.fn H (ds ++ [])).results [] := fun b sp hd => by
    rw [hrt, hfn]
    exact ChangeShapes.trodAll_mk1 (RowKit.shut_bool hb true)
  have hargs : ∀ sp : Nat → Bool, (∀ x ∈ p, sp x.block = true) → DataW.TrodAll enc P W' 0 sp true f.params.toList args.toList (s.fn H (ds ++ [])).args p := fun sp hsp => by
    rw [hfn]
    refine DataW.TrodAll.respare (kids_rows hl hm) hsz (fun t ht => ?_) (TrodAll_carry hA fun x hx => ho.sameAt (hlt x hx)) hsp
    simpa using List.all_eq_true.1 hp t ht
  have hvr : ∀ sp : Nat → Bool, DataW.TrodVars enc P W' sp s.vars (s.fn H (ds ++ [])).vars [] := fun sp => by rw [hfn, hvars]; rfl
  refine ⟨ds, [], p ++ [], [], p, [], hW0, hres _ _ _, hargs _ (fun x hx => by simpa using hlt x hx), hvr _, World.keptBut_mono (fun x hx => ⟨hx, .inr (by simpa using hx)⟩) (ho.kept (· ∈ p ++ [])), fun _ => ?_⟩
  refine ⟨RowKit.ok_one hrt rfl (RowKit.okWide_bool_mk hb true), _, _, ([] ++ p) ++ [], ⟨[] ++ p, [], ChangeShapes.trodAll_append (hargs _ (fun _ _ => rfl)) (hres _ _ _), hvr _, rfl, ?_, ?_⟩, ?_⟩
  · intro b off hx
    have hx' : MemPlace.cell b off ∈ p := by simpa using hx
    have := hfz b off (by simpa using hx')
    unfold World.frozen? at this ⊢
    rw [ho.2.2 b (hlt _ hx')]
    exact this
  · intro ha
    have := hnd ha
    simpa using this
  · intro x hx _
    simpa using hx
end
end Go.Eng

namespace Go.Eng
open Go

def somes : List (Option Blk) → Option (List Blk)
  | [] => some []
  | some b :: l => match somes l with
    | some bs => some (b :: bs)
    | none => none
  | none :: _ => none
theorem somes_map : ∀ {l : List (Option Blk)} {bs : List Blk}, somes l = some bs → bs.map some = l
  | [], bs, h => by simp only [somes, Option.some.injEq] at h; subst h; rfl
  | some b :: l, bs, h => by
    simp only [somes] at h
    split at h
    · rename_i bs' h'
      simp only [Option.some.injEq] at h
      subst h
      simp [somes_map h']
    · simp at h
  | none :: _, _, h => by simp [somes] at h

theorem Tree.chk_get {α : Type} {c : Bool} {t : Tree α} {r : α} (h : (Tree.chk c t).get = some r) : c = true ∧ t.get = some r := by
  cases c with
  | true => exact ⟨rfl, h⟩
  | false => simp [Tree.get] at h
theorem Tree.leaf_get {α : Type} {a r : α} (h : (Tree.leaf a).get = some r) : r = a := by
  simp only [Tree.get, Option.some.injEq] at h; exact h.symm

def toRes (n : Nat) (s : Ans) : Tree Res := match somes (s.H.drop n) with
  | some bs => match Nat.beq (s.H.take n).length n with
    | true => .leaf { val := s.val, upd := (s.H.take n).map some, new := bs }
    | false => .fail
  | none => .fail

theorem outOf_somes : ∀ (Hin : List Blk) (us : List (Option Blk)), us.length = Hin.length → outOf Hin (us.map some) = us
  | [], [], _ => rfl
  | b :: bs, u :: us, h => by simp [outOf, outOf_somes bs us (by simpa using h)]
  | [], _ :: _, h => by simp at h
  | _ :: _, [], h => by simp at h
theorem toRes_ok {Hin : List Blk} {s : Ans} {r : Res} (h : (toRes Hin.length s).get = some r) : r.val = s.val ∧ r.heap Hin = s.H := by
  unfold toRes at h
  split at h
  · rename_i bs hbs
    split at h
    · rename_i hl
      simp only [Tree.get, Option.some.injEq] at h
      subst h
      refine ⟨rfl, ?_⟩
      simp only [Res.heap]
      rw [outOf_somes _ _ (Nat.eq_of_beq_eq_true hl), somes_map hbs, List.take_append_drop]
    · simp [Tree.get] at h
  · simp [Tree.get] at h

section
variable {P : Program} {Γ : Nat → AV}

def inlineSpec (T : List (CT P Γ)) (L : Nat → LSpec) (ip : Bool) (m ntmps : Nat) (results : List ResultVar) (c : Code) (args : List AV) (Hin : List Blk) : Tree Res :=
  match Nat.beq Hin.length m && Nat.ble args.length ntmps with
  | true => (bodyE T L ip ntmps results c args Hin).bind (toRes m)
  | false => .fail

theorem callFunc_enters {f : FuncId} {fn : Func} (hf : P.funcs[f]? = some fn) (hb : fn.body.isSome = true) (hn : (fn.name == "runtime.NumGoroutine") = false) (args : Array Value) (w : World) :
    (callFunc f args).run P w = .ok (.enter f args) w := by
  have hb' : fn.body ≠ none := fun h => by rw [h] at hb; simp at hb
  have hn' : fn.name ≠ "runtime.NumGoroutine" := by simpa using hn
  simp [callFunc, program, Sem.run, hf, hn', hb']

def CT.inline (f : FuncId) (fn : Func) (c : Code) (T : List (CT P Γ)) (L : Nat → LSpec) (ip : Bool) (m ntmps : Nat) (results : List ResultVar) (hf : P.funcs[f]? = some fn) (hb : fn.body = some c) (hr : fn.results.toList = results) (hnt : fn.ntmps = ntmps)
    (hn : (fn.name == "runtime.NumGoroutine") = false)
    (hL : ∀ (j : Nat) (b : Code), (loopBodies c)[j]? = some b → LoopOK P Γ m ntmps b (L j)) : CT P Γ where
  f := f
  spec := inlineSpec T L ip m ntmps results c
  enters := callFunc_enters hf (by rw [hb]; rfl) hn
  ok := fun args Hin r h => by
    unfold inlineSpec at h
    split at h
    · rename_i hc
      simp only [Bool.and_eq_true] at hc
      have hm := Nat.eq_of_beq_eq_true hc.1
      have hl := Nat.le_of_ble_eq_true hc.2
      obtain ⟨s, h1, h2⟩ := Tree.get_bind_some h
      rw [← hm] at h2
      obtain ⟨k1, k2⟩ := toRes_ok h2
      subst hr; subst hnt
      refine contract_of (T := T) (ip := ip) hf hb L (fun j b hj => by rw [hm]; exact hL j b hj) hl (Tree.sat_iff.2 ⟨s, h1, ?_, ?_⟩)
      · rw [k1]; exact .refl _
      · rw [k2]; exact LeH.refl _
    · simp [Tree.get] at h

def CT.summed (f : FuncId) (fn : Func) (c : Code) (T : List (CT P Γ)) (L : Nat → LSpec) (ip : Bool) (ntmps : Nat) (results : List ResultVar) (spec : List AV → List Blk → Tree Res) (hf : P.funcs[f]? = some fn) (hb : fn.body = some c) (hr : fn.results.toList = results)
    (hnt : fn.ntmps = ntmps) (hn : (fn.name == "runtime.NumGoroutine") = false)
    (hL : ∀ (args : List AV) (Hin : List Blk) (r : Res), (spec args Hin).get = some r → ∀ (j : Nat) (b : Code), (loopBodies c)[j]? = some b → LoopOK P Γ Hin.length ntmps b (L j))
    (hs : ∀ (args : List AV) (Hin : List Blk) (r : Res), (spec args Hin).get = some r → args.length ≤ ntmps ∧ (bodyE T L ip ntmps results c args Hin).sat fun s => AV.le s.val r.val ∧ LeH s.H (r.heap Hin)) : CT P Γ where
  f := f
  spec := spec
  enters := callFunc_enters hf (by rw [hb]; rfl) hn
  ok := fun args Hin r h => by
    obtain ⟨h1, h2⟩ := hs args Hin r h
    subst hr; subst hnt
    exact contract_of (T := T) (ip := ip) hf hb L (hL args Hin r h) h1 h2

theorem noLoops {m N : Nat} {c : Code} {L : Nat → LSpec} (h : (nloops c).beq 0 = true) : ∀ (j : Nat) (b : Code), (loopBodies c)[j]? = some b → LoopOK P Γ m N b (L j) := by
  intro j b hj
  have h0 := Nat.eq_of_beq_eq_true h
  rw [← nloops_len] at h0
  rw [List.eq_nil_of_length_eq_zero h0] at hj
  simp at hj
theorem oneLoop {m N : Nat} {c b : Code} {L : Nat → LSpec} (h : loopBodies c = [b]) (hb : LoopOK P Γ m N b (L 0)) : ∀ (j : Nat) (b : Code), (loopBodies c)[j]? = some b → LoopOK P Γ m N b (L j) := by
  intro j b' hj
  rw [h] at hj
  cases j with
  | zero => simp at hj; subst hj; exact hb
  | succ j => simp at hj

def spec1 (k : IntKind) (pre : Int → Bool) (g : Int → AV) (args : List AV) (Hin : List Blk) : Tree Res := match args, Hin with
  | [.v (.int k' a)], [] => .chk (decide (k' = k) && pre a) (.leaf { val := g a })
  | _, _ => .fail
def CT.fun1 (f : FuncId) (fn : Func) (c : Code) (T : List (CT P Γ)) (L : Nat → LSpec) (ip : Bool) (ntmps : Nat) (results : List ResultVar) (k : IntKind) (pre : Int → Bool) (g : Int → AV) (hf : P.funcs[f]? = some fn) (hb : fn.body = some c) (hr : fn.results.toList = results)
    (hnt : fn.ntmps = ntmps) (hn : (fn.name == "runtime.NumGoroutine") = false) (hsz : 1 ≤ ntmps) (hL : ∀ (j : Nat) (b : Code), (loopBodies c)[j]? = some b → LoopOK P Γ 0 ntmps b (L j))
    (hs : ∀ a, pre a = true → (bodyE T L ip ntmps results c [.v (.int k a)] []).sat fun s => AV.le s.val (g a) ∧ LeH s.H []) : CT P Γ :=
  CT.summed f fn c T L ip ntmps results (spec1 k pre g) hf hb hr hnt hn
    (fun args Hin r h => by
      unfold spec1 at h
      split at h
      · exact hL
      · simp [Tree.get] at h)
    (fun args Hin r h => by
      unfold spec1 at h
      split at h
      · obtain ⟨hc, h⟩ := Tree.chk_get h
        obtain rfl := Tree.leaf_get h
        simp only [Bool.and_eq_true, decide_eq_true_eq] at hc
        obtain ⟨rfl, hp⟩ := hc
        exact ⟨by simpa using hsz, hs _ hp⟩
      · simp [Tree.get] at h)
def spec2 (k k' : IntKind) (pre : Int → Int → Bool) (g : Int → Int → AV) (args : List AV) (Hin : List Blk) : Tree Res := match args, Hin with
  | [.v (.int q a), .v (.int q' b)], [] => .chk (decide (q = k) && decide (q' = k') && pre a b) (.leaf { val := g a b })
  | _, _ => .fail
def CT.fun2 (f : FuncId) (fn : Func) (c : Code) (T : List (CT P Γ)) (L : Nat → LSpec) (ip : Bool) (ntmps : Nat) (results : List ResultVar) (k k' : IntKind) (pre : Int → Int → Bool) (g : Int → Int → AV) (hf : P.funcs[f]? = some fn) (hb : fn.body = some c) (hr : fn.results.toList = results)
    (hnt : fn.ntmps = ntmps) (hn : (fn.name == "runtime.NumGoroutine") = false) (hsz : 2 ≤ ntmps) (hL : ∀ (j : Nat) (b : Code), (loopBodies c)[j]? = some b → LoopOK P Γ 0 ntmps b (L j))
    (hs : ∀ a b, pre a b = true → (bodyE T L ip ntmps results c [.v (.int k a), .v (.int k' b)] []).sat fun s => AV.le s.val (g a b) ∧ LeH s.H []) : CT P Γ :=
  CT.summed f fn c T L ip ntmps results (spec2 k k' pre g) hf hb hr hnt hn
    (fun args Hin r h => by
      unfold spec2 at h
      split at h
      · exact hL
      · simp [Tree.get] at h)
    (fun args Hin r h => by
      unfold spec2 at h
      split at h
      · obtain ⟨hc, h⟩ := Tree.chk_get h
        obtain rfl := Tree.leaf_get h
        simp only [Bool.and_eq_true, decide_eq_true_eq] at hc
        obtain ⟨⟨rfl, rfl⟩, hp⟩ := hc
        exact ⟨by simpa using hsz, hs _ _ hp⟩
      · simp [Tree.get] at h)
theorem AV.le.int {k : IntKind} {a b : Int} (h : a = b) : AV.le (.v (.int k a)) (.v (.int k b)) := h ▸ .refl _
end
end Go.Eng

namespace Go.Eng
open Go
section
variable {P : Program} {Γ : Nat → AV}
open Classical in
noncomputable def lawSpec {X : Type} (A : X → List AV) (pre : X → Prop) (args : List AV) (Hin : List Blk) : Tree Res := match Hin with
  | [] => .chk (decide (∃ x, pre x ∧ args = A x)) (.leaf { val := .v (.bool true) })
  | _ => .fail
structure Right (t : Tree Ans) : Prop where
  ok : t.sat fun s => AV.le s.val (.v (.bool true)) ∧ LeH s.H []
open Classical in
theorem lawSpec_get {X : Type} {A : X → List AV} {pre : X → Prop} {args : List AV} {Hin : List Blk} {r : Res} (h : (lawSpec A pre args Hin).get = some r) : Hin = [] ∧ r = { val := .v (.bool true) } ∧ ∃ x, pre x ∧ args = A x := by
  unfold lawSpec at h
  split at h
  · obtain ⟨hc, h⟩ := Tree.chk_get h
    exact ⟨rfl, Tree.leaf_get h, decide_eq_true_iff.1 hc⟩
  · simp [Tree.get] at h
noncomputable def CT.law {X : Type} (A : X → List AV) (pre : X → Prop) (f : FuncId) (fn : Func) (c : Code) (T : List (CT P Γ)) (L : Nat → LSpec) (ip : Bool) (ntmps : Nat) (results : List ResultVar) (hf : P.funcs[f]? = some fn) (hb : fn.body = some c) (hr : fn.results.toList = results)
    (hnt : fn.ntmps = ntmps) (hn : (fn.name == "runtime.NumGoroutine") = false) (hsz : ∀ x, pre x → (A x).length ≤ ntmps)
    (hL : ∀ (j : Nat) (b : Code), (loopBodies c)[j]? = some b → LoopOK P Γ 0 ntmps b (L j))
    (hs : ∀ x, pre x → Right (bodyE T L ip ntmps results c (A x) [])) : CT P Γ :=
  CT.summed f fn c T L ip ntmps results (lawSpec A pre) hf hb hr hnt hn
    (fun args Hin r h => by
      obtain ⟨rfl, rfl, x, hp, rfl⟩ := lawSpec_get h
      exact hL)
    (fun args Hin r h => by
      obtain ⟨rfl, rfl, x, hp, rfl⟩ := lawSpec_get h
      exact ⟨hsz x hp, (hs x hp).ok⟩)
open Classical in
theorem law_in {X : Type} {A : X → List AV} {pre : X → Prop} {x : X} (h : pre x) {p : Res → Prop} (hp : p { val := .v (.bool true) }) : (lawSpec A pre (A x) []).sat p := by
  unfold lawSpec
  rw [Tree.sat_chk]
  exact ⟨decide_eq_true_iff.2 ⟨x, h, rfl⟩, by rw [Tree.sat_leaf]; exact hp⟩
end
end Go.Eng

namespace Go.Eng
open Go
section
variable {P : Program} {Γ : Nat → AV} {ip : Bool} {m : Nat} {T : List (CT P Γ)}
def Tree.flat {α : Type} (t : Tree α) : Tree α := match t.get with
  | some a => .leaf a
  | none => .fail
theorem Tree.flat_get {α : Type} {t : Tree α} : t.flat.get = t.get := by
  unfold Tree.flat
  split
  · rename_i h; rw [h]; rfl
  · rename_i h; rw [h]; rfl
def unrollE (T : List (CT P Γ)) (L : Nat → LSpec) (ip : Bool) (m k : Nat) (b : Code) (live : List Nat) (nils : List (Nat × TypeId)) (N : Nat) : Nat → List AV → Heap → Tree Out
  | 0, _, _ => .fail
  | j + 1, vals, H => (roundE T L ip m k b live nils N vals H).bind fun r => match r.ex with
    | .normal => unrollE T L ip m k b live nils N j r.fr r.H
    | _ => .leaf r
def LSpec.unroll (c : Bool) (n : Nat) (T : List (CT P Γ)) (L : Nat → LSpec) (ip : Bool) (m k : Nat) (b : Code) (live : List Nat) (nils : List (Nat × TypeId)) (N : Nat) : LSpec :=
  ⟨live, nils, fun vals H => match c with
    | true => (unrollE T L ip m k b live nils N n vals H).flat
    | false => unrollE T L ip m k b live nils N n vals H⟩
theorem unroll_get {c : Bool} {n : Nat} {L : Nat → LSpec} {k : Nat} {b : Code} {live : List Nat} {nils : List (Nat × TypeId)} {N : Nat} {vals : List AV} {H : Heap} :
    ((LSpec.unroll c n T L ip m k b live nils N).spec vals H).get = (unrollE T L ip m k b live nils N n vals H).get := by
  cases c
  · rfl
  · exact Tree.flat_get
theorem unroll_step {L : Nat → LSpec} {k : Nat} {b : Code} {live : List Nat} {nils : List (Nat × TypeId)} {N j : Nat} {vals : List AV} {H : Heap} {o : Out} (h : (unrollE T L ip m k b live nils N (j + 1) vals H).get = some o) :
    ∃ r, (roundE T L ip m k b live nils N vals H).get = some r ∧ (match r.ex with
      | .normal => (unrollE T L ip m k b live nils N j r.fr r.H).get = some o
      | _ => r = o) := by
  obtain ⟨r, h1, h2⟩ := Tree.get_bind_some h
  refine ⟨r, h1, ?_⟩
  cases hx : r.ex with
  | normal => rw [hx] at h2; exact h2
  | exit i => rw [hx] at h2; exact (Tree.leaf_get h2).symm
  | ret => rw [hx] at h2; exact (Tree.leaf_get h2).symm
theorem unroll_mono {L : Nat → LSpec} {k : Nat} {b : Code} {live : List Nat} {nils : List (Nat × TypeId)} {N : Nat} {o : Out} : ∀ {j : Nat} {vals : List AV} {H : Heap}, (unrollE T L ip m k b live nils N j vals H).get = some o → (unrollE T L ip m k b live nils N (j + 1) vals H).get = some o
  | 0, vals, H, h => by simp [unrollE, Tree.get] at h
  | j + 1, vals, H, h => by
    obtain ⟨r, h1, h2⟩ := unroll_step h
    have : ∀ i, (unrollE T L ip m k b live nils N (i + 1) vals H).get = (match r.ex with
      | .normal => unrollE T L ip m k b live nils N i r.fr r.H
      | _ => Tree.leaf r).get := fun i => by
      show ((roundE T L ip m k b live nils N vals H).bind _).get = _
      rw [Tree.get_bind, h1]
      rfl
    rw [this]
    cases hx : r.ex with
    | normal => rw [hx] at h2; exact unroll_mono h2
    | exit i => rw [hx] at h2; simp only at h2; subst h2; rfl
    | ret => rw [hx] at h2; simp only at h2; subst h2; rfl
theorem unroll_up {L : Nat → LSpec} {k : Nat} {b : Code} {live : List Nat} {nils : List (Nat × TypeId)} {N : Nat} {o : Out} {vals : List AV} {H : Heap} {i j : Nat} (hij : i ≤ j) (h : (unrollE T L ip m k b live nils N i vals H).get = some o) : (unrollE T L ip m k b live nils N j vals H).get = some o := by
  induction j with
  | zero => obtain rfl : i = 0 := by omega
            exact h
  | succ j ih =>
    rcases Nat.lt_or_ge j i with hl | hl
    · obtain rfl : i = j + 1 := by omega
      exact h
    · exact unroll_mono (ih hl)
theorem unroll_ok (c : Bool) (n : Nat) {L : Nat → LSpec} {k N : Nat} {b : Code} {live : List Nat} {nils : List (Nat × TypeId)}
    (hL : ∀ (j : Nat) (b' : Code), (loopBodies b)[j]? = some b' → LoopOK P Γ m N b' (L (k + j))) : LoopOK P Γ m N b (LSpec.unroll c n T L ip m k b live nils N) := by
  refine loop_ok (T := T) (ip := ip) (fun vals H => leastN fun j => ∃ o, (unrollE T L ip m k b live nils N j vals H).get = some o) hL fun vals H o h => ?_
  rw [unroll_get] at h
  have hex : ∃ j, ∃ o, (unrollE T L ip m k b live nils N j vals H).get = some o := ⟨n, o, h⟩
  obtain ⟨o', ho'⟩ := leastN_mem hex
  have hle : leastN (fun j => ∃ o, (unrollE T L ip m k b live nils N j vals H).get = some o) ≤ n := leastN_le ⟨o, h⟩
  generalize leastN (fun j => ∃ o, (unrollE T L ip m k b live nils N j vals H).get = some o) = d at ho' hle
  have e := unroll_up hle ho'
  rw [h] at e
  obtain rfl := Option.some.inj e
  match d, ho', hle with
  | 0, ho', _ => simp [unrollE, Tree.get] at ho'
  | d + 1, ho', hle =>
    obtain ⟨r, h1, h2⟩ := unroll_step ho'
    refine Tree.sat_iff.2 ⟨r, h1, ?_⟩
    unfold Owes
    cases hx : r.ex with
    | normal =>
      rw [hx] at h2
      refine ⟨r.fr, r.H, LeL.refl _, LeH.refl _, ?_, Nat.lt_succ_of_le (leastN_le ⟨o, h2⟩)⟩
      rw [unroll_get]
      exact unroll_up (by omega) h2
    | exit i => rw [hx] at h2; simp only at h2; subst h2; exact ⟨hx.symm, LeL.refl _, LeH.refl _⟩
    | ret => rw [hx] at h2; simp only at h2; subst h2; exact ⟨hx.symm, LeL.refl _, LeH.refl _⟩
def okSpec (args : List AV) (Hin : List Blk) : Tree Res := match args, Hin with
  | [], [] => .leaf { val := .v (.bool true) }
  | _, _ => .fail
def CT.fact (f : FuncId) (fn : Func) (c : Code) (T : List (CT P Γ)) (L : Nat → LSpec) (ip : Bool) (ntmps : Nat) (results : List ResultVar) (hf : P.funcs[f]? = some fn) (hb : fn.body = some c) (hr : fn.results.toList = results)
    (hnt : fn.ntmps = ntmps) (hn : (fn.name == "runtime.NumGoroutine") = false)
    (hL : ∀ (j : Nat) (b : Code), (loopBodies c)[j]? = some b → LoopOK P Γ 0 ntmps b (L j)) (val : AV) (hv : AV.le val (.v (.bool true)))
    (hs : (bodyE T L ip ntmps results c [] []).get = some ⟨val, []⟩) : CT P Γ :=
  CT.summed f fn c T L ip ntmps results okSpec hf hb hr hnt hn
    (fun args Hin r h => by
      unfold okSpec at h
      split at h
      · exact hL
      · simp [Tree.get] at h)
    (fun args Hin r h => by
      unfold okSpec at h
      split at h
      · obtain rfl := Tree.leaf_get h
        exact ⟨Nat.zero_le _, Tree.sat_iff.2 ⟨_, hs, hv, trivial⟩⟩
      · simp [Tree.get] at h)
end
end Go.Eng

namespace Go.Eng
open Go
section
variable {P : Program} {Γ : Nat → AV}
theorem bodies_get {c : Code} : ∀ {j : Nat} {b : Code}, (loopBodies c)[j]? = some b → ∀ {i : Nat} {b' : Code}, (loopBodies b)[i]? = some b' → (loopBodies c)[j + 1 + i]? = some b' := by
  induction c with
  | seq x y ix iy =>
    intro j b hj i b' hi
    simp only [loopBodies] at hj ⊢
    rcases Nat.lt_or_ge j (loopBodies x).length with hl | hl
    · rw [List.getElem?_append_left hl] at hj
      have := ix hj hi
      rw [List.getElem?_append_left (List.getElem?_eq_some_iff.1 this).1]; exact this
    · rw [List.getElem?_append_right hl] at hj
      have := iy hj hi
      rw [List.getElem?_append_right (by omega), show j + 1 + i - (loopBodies x).length = j - (loopBodies x).length + 1 + i by omega]; exact this
  | cond cc x y ix iy =>
    intro j b hj i b' hi
    simp only [loopBodies] at hj ⊢
    rcases Nat.lt_or_ge j (loopBodies x).length with hl | hl
    · rw [List.getElem?_append_left hl] at hj
      have := ix hj hi
      rw [List.getElem?_append_left (List.getElem?_eq_some_iff.1 this).1]; exact this
    · rw [List.getElem?_append_right hl] at hj
      have := iy hj hi
      rw [List.getElem?_append_right (by omega), show j + 1 + i - (loopBodies x).length = j - (loopBodies x).length + 1 + i by omega]; exact this
  | block id x ix => intro j b hj i b' hi; exact ix hj hi
  | loop x ix =>
    intro j b hj i b' hi
    simp only [loopBodies] at hj ⊢
    cases j with
    | zero =>
      simp only [List.getElem?_cons_zero, Option.some.injEq] at hj
      subst hj
      rw [show 0 + 1 + i = i + 1 by omega, List.getElem?_cons_succ]; exact hi
    | succ j =>
      rw [List.getElem?_cons_succ] at hj
      have := ix hj hi
      rw [show j + 1 + 1 + i = (j + 1 + i) + 1 by omega, List.getElem?_cons_succ]; exact this
  | _ => intro j b hj; simp [loopBodies] at hj
@[simp] theorem le_sb_true : AV.le (.sb true) (.v (.bool true)) ↔ True := ⟨fun _ => trivial, fun _ => .sb true⟩
def autoL (c : Bool) (n : Nat) (T : List (CT P Γ)) (ip : Bool) (m N : Nat) (bodies : List Code) : Nat → Nat → LSpec
  | 0, _ => ⟨[], [], fun _ _ => .fail⟩
  | d + 1, j => match bodies[j]? with
    | some b => LSpec.unroll c n T (autoL c n T ip m N bodies d) ip m (j + 1) b (List.range N) [] N
    | none => ⟨[], [], fun _ _ => .fail⟩
theorem fail_ok {m N : Nat} {b : Code} : LoopOK P Γ m N b ⟨[], [], fun _ _ => .fail⟩ := by
  intro vals H o h; simp [Tree.get] at h
theorem autoL_ok {cl : Bool} {n : Nat} {T : List (CT P Γ)} {ip : Bool} {m N : Nat} {c : Code} : ∀ (d j : Nat) (b : Code), (loopBodies c)[j]? = some b → LoopOK P Γ m N b (autoL cl n T ip m N (loopBodies c) d j)
  | 0, j, b, _ => fail_ok
  | d + 1, j, b, h => by
    rw [autoL, h]
    exact unroll_ok cl n fun i b' hi => autoL_ok d (j + 1 + i) b' (bodies_get h hi)
def autoSpec (cl : Bool) (n d : Nat) (T : List (CT P Γ)) (ip : Bool) (ntmps : Nat) (results : List ResultVar) (c : Code) (args : List AV) (Hin : List Blk) : Tree Res :=
  match Nat.ble args.length ntmps with
  | true => match cl with
    | true => ((bodyE T (autoL cl n T ip Hin.length ntmps (loopBodies c) d) ip ntmps results c args Hin).bind (toRes Hin.length)).flat
    | false => (bodyE T (autoL cl n T ip Hin.length ntmps (loopBodies c) d) ip ntmps results c args Hin).bind (toRes Hin.length)
  | false => .fail
def CT.auto (cl : Bool) (n d : Nat) (T : List (CT P Γ)) (f : FuncId) (fn : Func) (c : Code) (ip : Bool) (ntmps : Nat) (results : List ResultVar) (hf : P.funcs[f]? = some fn) (hb : fn.body = some c) (hr : fn.results.toList = results) (hnt : fn.ntmps = ntmps)
    (hn : (fn.name == "runtime.NumGoroutine") = false) : CT P Γ where
  f := f
  spec := autoSpec cl n d T ip ntmps results c
  enters := callFunc_enters hf (by rw [hb]; rfl) hn
  ok := fun args Hin r h => by
    unfold autoSpec at h
    split at h
    · rename_i hl
      have hl := Nat.le_of_ble_eq_true hl
      have h : ((bodyE T (autoL cl n T ip Hin.length ntmps (loopBodies c) d) ip ntmps results c args Hin).bind (toRes Hin.length)).get = some r := by
        cases cl with
        | true => exact Tree.flat_get.symm.trans h
        | false => exact h
      obtain ⟨s, h1, h2⟩ := Tree.get_bind_some h
      obtain ⟨k1, k2⟩ := toRes_ok h2
      subst hr; subst hnt
      refine contract_of (T := T) (ip := ip) hf hb _ (autoL_ok d) hl (Tree.sat_iff.2 ⟨s, h1, ?_, ?_⟩)
      · rw [k1]; exact .refl _
      · rw [k2]; exact LeH.refl _
    · simp [Tree.get] at h
end
end Go.Eng

namespace Go.Eng
open Go
def ckFs (P : Program) (K : TypeId → Option (List Cel)) : Nat → List Field → Option (List Cel)
  | _, [] => some []
  | off, f :: fs =>
    match Nat.beq f.offset off, K f.type with
    | true, some ks => match Nat.beq (P.cellsOf f.type) ks.length, ckFs P K (off + ks.length) fs with
      | true, some r => some (ks ++ r)
      | _, _ => none
    | _, _ => none
def ckT (P : Program) : Nat → TypeId → Option (List Cel)
  | 0, _ => none
  | d + 1, t =>
    match P.underlying t with
    | some (.int k) => some [.int k]
    | some .string => some [.str]
    | some .bool => some [.bool]
    | some (.struct fs) => match ckFs P (ckT P d) 0 fs.toList with
      | some ks => match Nat.beq (P.cellsOf t) ks.length with
        | true => some ks
        | false => none
      | none => none
    | _ => none
def goodV : Cel → Value → Prop
  | .int k, v => ∃ n, v = .int k n ∧ (Lit.int k n).wf = true
  | .bool, v => ∃ b, v = .bool b
  | .str, v => ∃ s, v = .string s ∧ s.size ≤ maxLen
def GoodVs : List Cel → List Value → Prop
  | [], [] => True
  | k :: ks, v :: vs => goodV k v ∧ GoodVs ks vs
  | _, _ => False
theorem GoodVs.append : ∀ {ks ks' : List Cel} {vs vs' : List Value}, GoodVs ks vs → GoodVs ks' vs' → GoodVs (ks ++ ks') (vs ++ vs')
  | [], _, [], _, _, h => h
  | _ :: _, _, _ :: _, _, h, h' => ⟨h.1, GoodVs.append h.2 h'⟩
  | [], _, _ :: _, _, h, _ => h.elim
  | _ :: _, _, [], _, h, _ => h.elim
theorem GoodVs.len : ∀ {ks : List Cel} {vs : List Value}, GoodVs ks vs → vs.length = ks.length
  | [], [], _ => rfl
  | _ :: _, _ :: _, h => by simp [GoodVs.len h.2]
  | [], _ :: _, h => h.elim
  | _ :: _, [], h => h.elim
theorem GoodVs.cons {k : Cel} {ks : List Cel} {vs : List Value} (h : GoodVs (k :: ks) vs) : ∃ v vs', vs = v :: vs' ∧ goodV k v ∧ GoodVs ks vs' := by
  cases vs with
  | nil => exact h.elim
  | cons v vs' => exact ⟨v, vs', rfl, h.1, h.2⟩
theorem GoodVs.nil {vs : List Value} (h : GoodVs [] vs) : vs = [] := by
  cases vs with
  | nil => rfl
  | cons v vs' => exact h.elim
section
variable {H : Type} {enc : TypeId × Value → H} {P : Program} {w : World} {base : Nat} {sp : Nat → Bool} {held : Bool}
theorem mapM_head {α β : Type} {f : α → Option β} {a : α} {l : List α} {r : List β} (h : (a :: l).mapM f = some r) : ∃ b r', f a = some b ∧ l.mapM f = some r' ∧ r = b :: r' := by
  simp only [List.mapM_cons, Option.bind_eq_bind, Option.bind_eq_some_iff, Option.pure_def, Option.some.injEq] at h
  obtain ⟨b, hb, r', hr, rfl⟩ := h
  exact ⟨b, r', hb, hr, rfl⟩
theorem trod_int {fuel : Nat} {t : TypeId} {k : IntKind} {cs : List Value} {x : DataW H × List MemPlace} (hu : P.underlying t = some (.int k)) (h : DataW.trod enc P w base sp held fuel t cs = some x) : GoodVs [.int k] cs := by
  cases fuel with
  | zero => simp [DataW.trod] at h
  | succ fuel =>
    unfold DataW.trod at h
    rw [hu] at h
    match cs with
    | [] => simp at h
    | [v] =>
      cases v <;> simp at h
      rename_i k' n
      obtain ⟨⟨rfl, hw⟩, _⟩ := h
      exact ⟨⟨n, rfl, hw⟩, trivial⟩
    | _ :: _ :: _ => simp at h
theorem trod_str {fuel : Nat} {t : TypeId} {cs : List Value} {x : DataW H × List MemPlace} (hu : P.underlying t = some .string) (h : DataW.trod enc P w base sp held fuel t cs = some x) : GoodVs [.str] cs := by
  cases fuel with
  | zero => simp [DataW.trod] at h
  | succ fuel =>
    unfold DataW.trod at h
    rw [hu] at h
    match cs with
    | [] => simp at h
    | [v] =>
      cases v <;> simp at h
      exact ⟨⟨_, rfl, h.1⟩, trivial⟩
    | _ :: _ :: _ => simp at h
theorem trod_bool {fuel : Nat} {t : TypeId} {cs : List Value} {x : DataW H × List MemPlace} (hu : P.underlying t = some .bool) (h : DataW.trod enc P w base sp held fuel t cs = some x) : GoodVs [.bool] cs := by
  cases fuel with
  | zero => simp [DataW.trod] at h
  | succ fuel =>
    unfold DataW.trod at h
    rw [hu] at h
    match cs with
    | [] => simp at h
    | [v] =>
      cases v <;> simp at h
      exact ⟨⟨_, rfl⟩, trivial⟩
    | _ :: _ :: _ => simp at h
theorem trod_struct {fuel : Nat} {t : TypeId} {fs : Array Field} {cs : List Value} {x : DataW H × List MemPlace} (hu : P.underlying t = some (.struct fs)) (h : DataW.trod enc P w base sp held (fuel + 1) t cs = some x) :
    cs.length = P.cellsOf t ∧ ∃ r, (fs.toList.mapM fun f => DataW.trod enc P w base sp held fuel f.type ((cs.drop f.offset).take (P.cellsOf f.type))) = some r := by
  unfold DataW.trod at h
  rw [hu] at h
  have h' : (if cs.length = P.cellsOf t then (fs.toList.mapM fun f => DataW.trod enc P w base sp held fuel f.type ((cs.drop f.offset).take (P.cellsOf f.type))).map fun xs => (DataW.agg (xs.map (·.1)), xs.flatMap (·.2)) else none) = some x := by
    match cs with
    | [] => exact h
    | [v] => cases v <;> first | exact h | (rename_i a; cases a <;> exact h) | (rename_i a b c; cases a <;> first | exact h | (cases b <;> first | exact h | (cases c <;> exact h)))
    | _ :: _ :: _ => exact h
  split at h'
  · rename_i hl
    obtain ⟨r, hr, _⟩ := Option.map_eq_some_iff.1 h'
    exact ⟨hl, r, hr⟩
  · simp at h'
theorem trod_good : ∀ (D fuel : Nat) {t : TypeId} {cs : List Value} {x : DataW H × List MemPlace} {ks : List Cel}, DataW.trod enc P w base sp held fuel t cs = some x → ckT P D t = some ks → GoodVs ks cs := by
  intro D
  induction D with
  | zero => intro fuel t cs x ks _ h; simp [ckT] at h
  | succ D ih =>
    intro fuel t cs x ks h hk
    unfold ckT at hk
    split at hk
    · rename_i k hu
      obtain rfl := Option.some.inj hk
      exact trod_int hu h
    · rename_i hu
      obtain rfl := Option.some.inj hk
      exact trod_str hu h
    · rename_i hu
      obtain rfl := Option.some.inj hk
      exact trod_bool hu h
    · rename_i fs hu
      split at hk
      · rename_i ks' hks
        split at hk
        · rename_i hc
          obtain rfl := Option.some.inj hk
          have hc := Nat.eq_of_beq_eq_true hc
          cases fuel with
          | zero => simp [DataW.trod] at h
          | succ fuel =>
            obtain ⟨hl, r, hr⟩ := trod_struct hu h
            have key : ∀ (l : List Field) (off : Nat) (ks : List Cel) (r : List (DataW H × List MemPlace)), ckFs P (ckT P D) off l = some ks → off + ks.length = cs.length →
                (l.mapM fun f => DataW.trod enc P w base sp held fuel f.type ((cs.drop f.offset).take (P.cellsOf f.type))) = some r → GoodVs ks (cs.drop off) := by
              intro l
              induction l with
              | nil =>
                intro off ks r hk hlen _
                simp only [ckFs, Option.some.injEq] at hk
                subst hk
                rw [List.drop_of_length_le (by simp at hlen; omega)]
                exact trivial
              | cons f l ihl =>
                intro off ks r hk hlen hm
                obtain ⟨b, r', h1, h2, _⟩ := mapM_head hm
                simp only [ckFs] at hk
                split at hk
                · rename_i ks1 ho hkf
                  split at hk
                  · rename_i r2 hsz hk2
                    obtain rfl := Option.some.inj hk
                    have ho := Nat.eq_of_beq_eq_true ho
                    have hsz := Nat.eq_of_beq_eq_true hsz
                    have g1 := ih fuel h1 hkf
                    have g2 := ihl (off + ks1.length) r2 r' hk2 (by simp at hlen; omega) h2
                    rw [ho, hsz] at g1
                    have := g1.append g2
                    rwa [← List.drop_drop, List.take_append_drop] at this
                  · simp at hk
                · simp at hk
            have := key fs.toList 0 ks' r hks (by omega) hr
            simpa using this
        · simp at hk
      · simp at hk
    · simp at hk
theorem open_agg {t : TypeId} {fs : Array Field} {v : Value} {r : Reach} {b0 : Nat} {d : DataW H} {ps : List MemPlace} {ks : List Cel} (D : Nat) (hu : P.underlying t = some (.struct fs)) (hk : ckT P D t = some ks)
    (hval : Value.okWide P w r b0 t v) (h : DataW.Trod enc P w base sp held t v d ps) : ∃ l, v = .agg ⟨l⟩ ∧ GoodVs ks l := by
  unfold Value.okWide at hval
  rw [hu] at hval
  obtain ⟨cs, rfl, _, _⟩ := hval
  obtain ⟨fuel, h⟩ := h
  exact ⟨cs.toList, rfl, trod_good D fuel h hk⟩
end
theorem V_agg {σ : Store} {φ : Places} {xs : List AV} {ys : List Value} (h : VL σ φ xs ys) : V σ φ (.agg xs) (.agg ⟨ys⟩) :=
  .agg (by simpa using h.1) (fun j c y hc hy => h.2 j c y hc (by simpa using hy))
theorem right_of {t : Tree Ans} (h : t.get = some ⟨.sb true, []⟩) : Right t := ⟨Tree.sat_iff.2 ⟨_, h, .sb true, trivial⟩⟩
structure Gives (t : Tree Ans) (v : AV) : Prop where
  ok : t.sat fun s => AV.le s.val v ∧ LeH s.H []
section
variable {P : Program} {Γ : Nat → AV}
def CT.val1 (f : FuncId) (fn : Func) (c : Code) (T : List (CT P Γ)) (L : Nat → LSpec) (ip : Bool) (ntmps : Nat) (results : List ResultVar) (k : IntKind) (pre : Int → Bool) (g : Int → AV) (hf : P.funcs[f]? = some fn) (hb : fn.body = some c) (hr : fn.results.toList = results)
    (hnt : fn.ntmps = ntmps) (hn : (fn.name == "runtime.NumGoroutine") = false) (hsz : 1 ≤ ntmps) (hL : ∀ (j : Nat) (b : Code), (loopBodies c)[j]? = some b → LoopOK P Γ 0 ntmps b (L j))
    (hs : ∀ a, pre a = true → Gives (bodyE T L ip ntmps results c [.v (.int k a)] []) (g a)) : CT P Γ :=
  CT.fun1 f fn c T L ip ntmps results k pre g hf hb hr hnt hn hsz hL fun a h => (hs a h).ok
def CT.val2 (f : FuncId) (fn : Func) (c : Code) (T : List (CT P Γ)) (L : Nat → LSpec) (ip : Bool) (ntmps : Nat) (results : List ResultVar) (k k' : IntKind) (pre : Int → Int → Bool) (g : Int → Int → AV) (hf : P.funcs[f]? = some fn) (hb : fn.body = some c) (hr : fn.results.toList = results)
    (hnt : fn.ntmps = ntmps) (hn : (fn.name == "runtime.NumGoroutine") = false) (hsz : 2 ≤ ntmps) (hL : ∀ (j : Nat) (b : Code), (loopBodies c)[j]? = some b → LoopOK P Γ 0 ntmps b (L j))
    (hs : ∀ a b, pre a b = true → Gives (bodyE T L ip ntmps results c [.v (.int k a), .v (.int k' b)] []) (g a b)) : CT P Γ :=
  CT.fun2 f fn c T L ip ntmps results k k' pre g hf hb hr hnt hn hsz hL fun a b h => (hs a b h).ok
end
end Go.Eng

namespace Go.Eng
open Go Go.ChangeShapes
structure Meets (t : Tree Ans) (v : AV) (H : Heap) : Prop where
  ok : t.sat fun s => AV.le s.val v ∧ LeH s.H H
theorem Gives.meets {t : Tree Ans} {v : AV} (h : Gives t v) : Meets t v [] := ⟨h.ok⟩
section
variable {P : Program} {Γ : Nat → AV}
def CT.told (f : FuncId) (fn : Func) (c : Code) (T : List (CT P Γ)) (L : Nat → LSpec) (ip : Bool) (ntmps : Nat) (results : List ResultVar) (spec : List AV → List Blk → Tree Res) (hf : P.funcs[f]? = some fn) (hb : fn.body = some c) (hr : fn.results.toList = results)
    (hnt : fn.ntmps = ntmps) (hn : (fn.name == "runtime.NumGoroutine") = false)
    (hL : ∀ (args : List AV) (Hin : List Blk) (r : Res), (spec args Hin).get = some r → ∀ (j : Nat) (b : Code), (loopBodies c)[j]? = some b → LoopOK P Γ Hin.length ntmps b (L j))
    (hs : ∀ (args : List AV) (Hin : List Blk) (r : Res), (spec args Hin).get = some r → args.length ≤ ntmps ∧ Meets (bodyE T L ip ntmps results c args Hin) r.val (r.heap Hin)) : CT P Γ :=
  CT.summed f fn c T L ip ntmps results spec hf hb hr hnt hn hL fun args Hin r h => ⟨(hs args Hin r h).1, (hs args Hin r h).2.ok⟩
end
section
variable {H : Type} {enc : TypeId × Value → H} {P : Program} {w : World} {base : Nat} {sp : Nat → Bool} {held : Bool}
theorem open_sl {t e : TypeId} {k : IntKind} {v : Value} {r : Reach} {b0 : Nat} {d : DataW H} {ps : List MemPlace} (ht : P.underlying t = some (.slice e)) (he : P.underlying e = some (.int k)) (hc : P.cellsOf e = 1)
    (hval : Value.okWide P w r b0 t v) (h : DataW.Trod enc P w base sp held t v d ps) :
    v = .slice none 0 0 ∨ ∃ (m : Nat) (g : Nat → Int), V0 (σof w) (.sl 1 m fun i => [.v (.int k (g i))]) v ∧ (∀ i, i < m → (Lit.int k (g i)).wf = true) := by
  obtain ⟨fuel, h⟩ := h
  have hv : v = .slice none 0 0 ∨ ∃ a len cap, v = .slice (some a) len cap ∧ a.spot = none := by
    unfold Value.okWide at hval
    rw [ht] at hval
    simp only at hval
    unfold Cell.okWide at hval
    rw [ht] at hval
    unfold Cell.ok at hval
    rw [ht] at hval
    cases v with
    | slice a len cap =>
      cases a with
      | none => left; match len, cap, hval with | 0, 0, _ => rfl
      | some a => right; exact ⟨a, len, cap, rfl, hval.2.2.2.1⟩
    | _ => exact hval.elim
  rcases hv with rfl | ⟨a, len, cap, rfl, hsp⟩
  · exact .inl rfl
  · rcases ChangeShapes.open_ints ht he hc h with ⟨h0, _⟩ | ⟨a', len', cap', zs, h0, hb, hl, hcap, hlen, _, hcell, hwf⟩
    · have := (List.cons.inj h0).1; simp at this
    · have h1 := (List.cons.inj h0).1
      simp only [Value.slice.injEq, Option.some.injEq] at h1
      obtain ⟨rfl, rfl, rfl⟩ := h1
      have hge : len ≤ zs.length := by rw [hlen]; split <;> omega
      refine .inr ⟨len, fun i => zs.getD i 0, ?_, fun i hi => ?_⟩
      · refine .sl 1 len _ a cap (fun e j => .int k (zs.getD e 0)) hsp hl (fun _ => rfl) (fun e j c he' hcc => ?_) (fun e j c he' hcc => rfl) (fun e j c he' hcc => ?_)
        · cases j with
          | zero =>
            have := hcell e (by omega)
            have e2 : (a.add e) = ⟨a.block, a.off + e, none⟩ := by
              unfold Addr.add
              split
              · rename_i h0; subst h0; cases a; simp at hsp ⊢; exact hsp
              · rfl
            rw [e2] at this
            simpa using σof_of this
          | succ j => simp at hcc
        · cases j with
          | zero => simp at hcc; subst hcc; exact .v _
          | succ j => simp at hcc
      · show (Lit.int k (zs.getD i 0)).wf = true
        exact hwf _ (by rw [List.getD_eq_getElem?_getD, List.getElem?_eq_getElem (by omega)]; exact List.getElem_mem _)
def slArg (k : IntKind) : Option (Nat × (Nat → Int)) → AV
  | none => .v (.slice none 0 0)
  | some x => .sl 1 x.1 fun i => [.v (.int k (x.2 i))]
theorem open_slArg {t e : TypeId} {k : IntKind} {v : Value} {r : Reach} {b0 : Nat} {d : DataW H} {ps : List MemPlace} (ht : P.underlying t = some (.slice e)) (he : P.underlying e = some (.int k)) (hc : P.cellsOf e = 1)
    (hval : Value.okWide P w r b0 t v) (h : DataW.Trod enc P w base sp held t v d ps) :
    ∃ x : Option (Nat × (Nat → Int)), V0 (σof w) (slArg k x) v ∧ ∀ y, x = some y → ∀ i, i < y.1 → (Lit.int k (y.2 i)).wf = true := by
  rcases open_sl ht he hc hval h with rfl | ⟨m, g, h1, h2⟩
  · exact ⟨none, .v _, fun y hy => by simp at hy⟩
  · exact ⟨some (m, g), h1, fun y hy => by simp only [Option.some.injEq] at hy; subst hy; exact h2⟩
end
end Go.Eng

namespace Go.Eng
open Go
section
variable {P : Program} {Γ : Nat → AV} {ip : Bool} {m : Nat} {T : List (CT P Γ)}
def OwesR (Sp : List AV → Heap → Out → Prop) (μ : List AV → Heap → Nat) (n : Nat) (o r : Out) : Prop :=
  match r.ex with
  | .normal => ∃ v2 H2, LeL r.fr v2 ∧ LeH r.H H2 ∧ Sp v2 H2 o ∧ μ v2 H2 < n
  | _ => r.ex = o.ex ∧ LeL r.fr o.fr ∧ LeH r.H o.H
open Classical in
noncomputable def relSpec (Sp : List AV → Heap → Out → Prop) (o : Out) (vals : List AV) (H : Heap) : Tree Out := .chk (decide (Sp vals H o)) (.leaf o)
open Classical in
theorem relSpec_get {Sp : List AV → Heap → Out → Prop} {o o' : Out} {vals : List AV} {H : Heap} (h : (relSpec Sp o vals H).get = some o') : o' = o ∧ Sp vals H o := by
  obtain ⟨h1, h2⟩ := Tree.chk_get h
  exact ⟨Tree.leaf_get h2, decide_eq_true_iff.1 h1⟩
open Classical in
theorem relSpec_of {Sp : List AV → Heap → Out → Prop} {o : Out} {vals : List AV} {H : Heap} (h : Sp vals H o) : (relSpec Sp o vals H).get = some o := by
  unfold relSpec
  rw [decide_eq_true_iff.2 h]; rfl
theorem loop_rel {L : Nat → LSpec} {N k : Nat} {b : Code} {ls : LSpec} (Sp : List AV → Heap → Out → Prop) (μ : List AV → Heap → Nat)
    (hL : ∀ (j : Nat) (b' : Code), (loopBodies b)[j]? = some b' → LoopOK P Γ m N b' (L (k + j)))
    (hsp : ∀ vals H o, (ls.spec vals H).get = some o → Sp vals H o)
    (hr : ∀ vals H o, Sp vals H o → (roundE T L ip m k b ls.live ls.nils N vals H).sat (OwesR Sp μ (μ vals H) o)) : LoopOK P Γ m N b ls := by
  have key : ∀ o, LoopOK P Γ m N b ⟨ls.live, ls.nils, relSpec Sp o⟩ := fun o => by
    refine loop_ok (T := T) (ip := ip) μ hL fun vals H o' h => ?_
    obtain ⟨rfl, hs⟩ := relSpec_get h
    obtain ⟨r, h1, h2⟩ := Tree.sat_iff.1 (hr vals H o' hs)
    refine Tree.sat_iff.2 ⟨r, h1, ?_⟩
    unfold OwesR at h2
    unfold Owes
    cases hx : r.ex with
    | normal =>
      rw [hx] at h2
      obtain ⟨v2, H2, k1, k2, k3, k4⟩ := h2
      exact ⟨v2, H2, k1, k2, relSpec_of k3, k4⟩
    | exit i => rw [hx] at h2; exact h2
    | ret => rw [hx] at h2; exact h2
  intro vals H o h
  exact key o vals H o (relSpec_of (hsp vals H o h))
end
end Go.Eng

namespace Go.Eng
open Go
section
variable {P : Program} {Γ : Nat → AV}
def CT.orElse (sel : List AV → List Blk → Bool) (c1 c2 : CT P Γ) (h : c2.f = c1.f) : CT P Γ where
  f := c1.f
  spec := fun args Hin => match sel args Hin with
    | true => c1.spec args Hin
    | false => c2.spec args Hin
  enters := c1.enters
  ok := fun args Hin r hr => by
    cases hs : sel args Hin with
    | true => rw [hs] at hr; exact c1.ok args Hin r hr
    | false => rw [hs] at hr; rw [← h]; exact c2.ok args Hin r hr
end
end Go.Eng

namespace Go.Eng
open Go
variable {α : Type}
def Tree.prune : List Bool → Tree α → Tree α
  | _, .leaf a => .leaf a
  | cs, .chk c t => .chk c (Tree.prune cs t)
  | true :: cs, .br c t _ => .chk c (Tree.prune cs t)
  | false :: cs, .br c _ e => .chk (!c) (Tree.prune cs e)
  | [], .br _ _ _ => .fail
  | _, .fail => .fail
theorem prune_get {a : α} : ∀ {t : Tree α} {cs : List Bool}, (Tree.prune cs t).get = some a → t.get = some a := by
  intro t
  induction t with
  | leaf b => intro cs h; simpa [Tree.prune] using h
  | chk c t ih =>
    intro cs h
    have h' : (Tree.chk c (Tree.prune cs t)).get = some a := by cases cs <;> simpa [Tree.prune] using h
    obtain ⟨h1, h2⟩ := Tree.chk_get h'
    rw [h1]; exact ih h2
  | br c t e iht ihe =>
    intro cs h
    match cs, h with
    | [], h => simp [Tree.prune, Tree.get] at h
    | true :: cs, h =>
      obtain ⟨h1, h2⟩ := Tree.chk_get (show (Tree.chk c (Tree.prune cs t)).get = some a from by simpa [Tree.prune] using h)
      rw [h1]; exact iht h2
    | false :: cs, h =>
      obtain ⟨h1, h2⟩ := Tree.chk_get (show (Tree.chk (!c) (Tree.prune cs e)).get = some a from by simpa [Tree.prune] using h)
      have h1 : c = false := by simpa using h1
      rw [h1]; exact ihe h2
  | fail => intro cs h; cases cs <;> simp [Tree.prune, Tree.get] at h
def nextC : List Bool → Tree α → Option Bool
  | _, .leaf _ => none
  | cs, .chk _ t => nextC cs t
  | true :: cs, .br _ t _ => nextC cs t
  | false :: cs, .br _ _ e => nextC cs e
  | [], .br c _ _ => some c
  | _, .fail => none
end Go.Eng

namespace Go.Eng
open Go
inductive Sh where
  | c (c : Cel)
  | a (l : List Cel)
def kcA : Cel → KC → AV
  | .int k, .i n => .v (.int k n)
  | .str, .s t => .v (.string t)
  | .bool, .b c => .sb c
  | _, _ => .any
def kcAs : List Cel → List KC → List AV
  | c :: cs, k :: ks => kcA c k :: kcAs cs ks
  | _, _ => []
def unSh : List Sh → List AV → Option (List KC)
  | [], [] => some []
  | .c c :: sh, x :: xs => match kcOf [c] [x], unSh sh xs with
    | some a, some b => some (a ++ b)
    | _, _ => none
  | .a l :: sh, .agg cs :: xs => match kcOf l cs, unSh sh xs with
    | some a, some b => some (a ++ b)
    | _, _ => none
  | _, _ => none
def toSh : List Sh → List KC → List AV
  | [], _ => []
  | .c c :: sh, l => (kcAs [c] (l.take 1)).headD .any :: toSh sh (l.drop 1)
  | .a cs :: sh, l => .agg (kcAs cs (l.take cs.length)) :: toSh sh (l.drop cs.length)
def shCels : List Sh → List Cel
  | [] => []
  | .c c :: sh => c :: shCels sh
  | .a l :: sh => l ++ shCels sh
theorem kFit_len : ∀ {cels : List Cel} {k : List KC}, kFit cels k = true → k.length = cels.length
  | [], [], _ => rfl
  | [], _ :: _, h => by simp [kFit] at h
  | _ :: _, [], h => by simp [kFit] at h
  | c :: cs, x :: k, h => by
    simp only [kFit, Bool.and_eq_true] at h
    simp [kFit_len h.2]
theorem kFit_append : ∀ {a b : List Cel} {k q : List KC}, kFit a k = true → kFit b q = true → kFit (a ++ b) (k ++ q) = true
  | [], _, [], _, _, h => h
  | [], _, _ :: _, _, h, _ => by simp [kFit] at h
  | _ :: _, _, [], _, h, _ => by simp [kFit] at h
  | c :: cs, _, x :: k, _, h, h' => by
    simp only [kFit, Bool.and_eq_true, List.cons_append] at h ⊢
    exact ⟨h.1, kFit_append h.2 h'⟩
section
variable {σ : Store} {φ : Places}
theorem kcAs_V : ∀ {cels : List Cel} {k : List KC}, kFit cels k = true → VL σ φ (kcAs cels k) (kVs cels k)
  | [], [], _ => ⟨rfl, fun j c y h => by simp [kcAs] at h⟩
  | [], _ :: _, h => by simp [kFit] at h
  | _ :: _, [], h => by simp [kFit] at h
  | c :: cs, x :: k, h => by
    simp only [kFit, Bool.and_eq_true] at h
    refine .one ?_ (kcAs_V h.2)
    cases c <;> cases x <;> simp [kcFit] at h <;> first | exact V_v _ | exact V_sb _
theorem unSh_ok : ∀ {sh : List Sh} {args : List AV} {l : List KC} {ys : List Value}, unSh sh args = some l → VL σ φ args ys → kFit (shCels sh) l = true ∧ VL σ φ (toSh sh l) ys := by
  intro sh
  induction sh with
  | nil =>
    intro args l ys h hv
    cases args with
    | nil => simp only [unSh, Option.some.injEq] at h; subst h; exact ⟨rfl, hv⟩
    | cons a xs1 => simp [unSh] at h
  | cons s sh ih =>
    intro args l ys h hv
    cases args with
    | nil => cases s <;> simp [unSh] at h
    | cons a xs1 =>
      cases ys with
      | nil => have := hv.1; simp at this
      | cons y ys =>
        have hx : V σ φ a y := hv.2 0 a y (by simp) (by simp)
        have hxs : VL σ φ xs1 ys := ⟨by have := hv.1; simpa using this, fun j c z hc hz => hv.2 (j + 1) c z (by simpa using hc) (by simpa using hz)⟩
        cases s with
        | c c =>
          simp only [unSh] at h
          split at h
          · rename_i p q hp hq
            simp only [Option.some.injEq] at h
            subst h
            obtain ⟨k1, k2⟩ := kcOf_ok (ys := [y]) hp (.one hx .none)
            obtain ⟨i1, i2⟩ := ih hq hxs
            have hl := kFit_len k1
            match p, hl with
            | [x], _ =>
              refine ⟨kFit_append (a := [c]) k1 i1, ?_⟩
              simp only [toSh, List.singleton_append, List.take_succ_cons, List.take_zero, List.drop_succ_cons, List.drop_zero]
              refine .one ?_ i2
              have := kcAs_V (σ := σ) (φ := φ) k1
              rw [← k2] at this
              exact this.2 0 _ y (by simp [kcAs]) rfl
          · simp at h
        | a cs =>
          cases a with
          | agg zs1 =>
            simp only [unSh] at h
            split at h
            · rename_i p q hp hq
              simp only [Option.some.injEq] at h
              subst h
              obtain ⟨zs, rfl, hl, hz⟩ := hx.agg_inv
              obtain ⟨k1, k2⟩ := kcOf_ok (ys := zs.toList) hp (VL_of_agg hl hz)
              obtain ⟨i1, i2⟩ := ih hq hxs
              have hlen := kFit_len k1
              refine ⟨kFit_append k1 i1, ?_⟩
              simp only [toSh]
              rw [← hlen, List.take_left, List.drop_left]
              refine .one ?_ i2
              have := kcAs_V (σ := σ) (φ := φ) k1
              rw [← k2] at this
              exact V_agg this
            · simp at h
          | _ => simp [unSh] at h
end
section
variable {P : Program} {Γ : Nat → AV}
theorem Contract.weak {f : FuncId} {args args' : List AV} {Hin : List Blk} {r : Res} (h : Contract P Γ f args' Hin r) (hv : ∀ (σ : Store) (φ : Places) (ys : List Value), VL σ φ args ys → VL σ φ args' ys) : Contract P Γ f args Hin r :=
  fun σ φ w vals hG hV => h σ φ w vals hG (hv σ φ vals.toList hV)
theorem toSh_len : ∀ (sh : List Sh) (l : List KC), (toSh sh l).length = sh.length
  | [], l => rfl
  | .c c :: sh, l => by simp only [toSh, List.length_cons, toSh_len sh]
  | .a cs :: sh, l => by simp only [toSh, List.length_cons, toSh_len sh]
def funSpec (sh : List Sh) (pre : List KC → Bool) (g : List KC → AV) (args : List AV) (Hin : List Blk) : Tree Res := match Hin with
  | [] => match unSh sh args with
    | some l => .chk (pre l) (.leaf { val := g l })
    | none => .fail
  | _ => .fail
def CT.fun (f : FuncId) (fn : Func) (c : Code) (T : List (CT P Γ)) (L : Nat → LSpec) (ip : Bool) (ntmps : Nat) (results : List ResultVar) (sh : List Sh) (pre : List KC → Bool) (g : List KC → AV) (hf : P.funcs[f]? = some fn) (hb : fn.body = some c) (hr : fn.results.toList = results)
    (hnt : fn.ntmps = ntmps) (hn : (fn.name == "runtime.NumGoroutine") = false) (hsz : sh.length ≤ ntmps) (hL : ∀ (j : Nat) (b : Code), (loopBodies c)[j]? = some b → LoopOK P Γ 0 ntmps b (L j))
    (hs : ∀ l, kFit (shCels sh) l = true → pre l = true → Gives (bodyE T L ip ntmps results c (toSh sh l) []) (g l)) : CT P Γ where
  f := f
  spec := funSpec sh pre g
  enters := callFunc_enters hf (by rw [hb]; rfl) hn
  ok := fun args Hin r h => by
    unfold funSpec at h
    split at h
    · split at h
      · rename_i l hl
        obtain ⟨hp, h⟩ := Tree.chk_get h
        obtain rfl := Tree.leaf_get h
        by_cases hfit : kFit (shCels sh) l = true
        · have hlen := toSh_len sh l
          subst hr; subst hnt
          exact (contract_of (T := T) (ip := ip) (Hin := []) (r := { val := g l }) hf hb L hL (by rw [hlen]; exact hsz) (hs l hfit hp).ok).weak fun σ φ ys hv => (unSh_ok hl hv).2
        · intro σ φ w vals hG hV
          exact absurd (unSh_ok hl hV).1 hfit
      · simp [Tree.get] at h
    · simp [Tree.get] at h
end
end Go.Eng

namespace Go.Eng
open Go
theorem Gives.of {t t' : Tree Ans} {v : AV} (e : t = t') (h : t'.sat fun s => AV.le s.val v ∧ LeH s.H []) : Gives t v := ⟨e ▸ h⟩
theorem Right.of {t t' : Tree Ans} (e : t = t') (h : t'.sat fun s => AV.le s.val (.v (.bool true)) ∧ LeH s.H []) : Right t := ⟨e ▸ h⟩
theorem Meets.of {t t' : Tree Ans} {v : AV} {H : Heap} (e : t = t') (h : t'.sat fun s => AV.le s.val v ∧ LeH s.H H) : Meets t v H := ⟨e ▸ h⟩
theorem le_int {k k' : IntKind} {a b : Int} : AV.le (.v (.int k a)) (.v (.int k' b)) ↔ k = k' ∧ a = b := ⟨fun h => by cases h; exact ⟨rfl, rfl⟩, fun ⟨h1, h2⟩ => by rw [h1, h2]; exact .refl _⟩
theorem le_str {a b : ByteArray} : AV.le (.v (.string a)) (.v (.string b)) ↔ a = b := ⟨fun h => by cases h; rfl, fun h => by rw [h]; exact .refl _⟩
theorem le_sbsb {a b : Bool} : AV.le (.sb a) (.sb b) ↔ a = b := ⟨fun h => by cases h; rfl, fun h => by rw [h]; exact .refl _⟩
theorem le_vsb {a b : Bool} : AV.le (.v (.bool a)) (.sb b) ↔ a = b := ⟨fun h => by cases h; rfl, fun h => by rw [h]; exact .bs _⟩
theorem le_sbv {a b : Bool} : AV.le (.sb a) (.v (.bool b)) ↔ a = b := ⟨fun h => by cases h; rfl, fun h => by rw [h]; exact .sb _⟩
theorem le_vv {a b : Bool} : AV.le (.v (.bool a)) (.v (.bool b)) ↔ a = b := ⟨fun h => by cases h; rfl, fun h => by rw [h]; exact .refl _⟩
theorem le_tup {xs ys : List AV} (h : LeL xs ys) : AV.le (.tup xs) (.tup ys) := .tup h.len h.pt
theorem le_agg {xs ys : List AV} (h : LeL xs ys) : AV.le (.agg xs) (.agg ys) := .agg h.len h.pt
end Go.Eng

namespace Go.Eng
open Go
section
variable {P : Program} {Γ : Nat → AV} {ip : Bool} {m : Nat} {T : List (CT P Γ)} {X : Type}
open Classical in
noncomputable def LSpec.by (live : List Nat) (nils : List (Nat × TypeId)) (ext : List AV → Heap → Option X) (S : X → List AV × Heap) (pre : X → Prop) (O : X → Tree Out) : LSpec :=
  ⟨live, nils, fun vals H => match ext vals H with
    | some x => .chk (decide ((vals, H) = S x)) (.chk (decide (pre x)) (O x))
    | none => .fail⟩
def OwesX (S : X → List AV × Heap) (pre : X → Prop) (O : X → Tree Out) (μ : X → Nat) (n : Nat) (o r : Out) : Prop :=
  match r.ex with
  | .normal => ∃ x', LeL r.fr (S x').1 ∧ LeH r.H (S x').2 ∧ pre x' ∧ (O x').get = some o ∧ μ x' < n
  | _ => r.ex = o.ex ∧ LeL r.fr o.fr ∧ LeH r.H o.H
open Classical in
theorem loop_by {L : Nat → LSpec} {N k : Nat} {b : Code} {live : List Nat} {nils : List (Nat × TypeId)} {ext : List AV → Heap → Option X} {S : X → List AV × Heap} {pre : X → Prop} {O : X → Tree Out} (μ : X → Nat)
    (hL : ∀ (j : Nat) (b' : Code), (loopBodies b)[j]? = some b' → LoopOK P Γ m N b' (L (k + j)))
    (hr : ∀ x o, pre x → (O x).get = some o → (roundE T L ip m k b live nils N (S x).1 (S x).2).sat (OwesX S pre O μ (μ x) o)) : LoopOK P Γ m N b (LSpec.by live nils ext S pre O) := by
  -- at a state and an end: the least measure
  have key : ∀ o, LoopOK P Γ m N b ⟨live, nils, relSpec (fun vals H o => ∃ x, pre x ∧ (vals, H) = S x ∧ (O x).get = some o) o⟩ := fun o => by
    let Q : List AV → Heap → Nat → Prop := fun vals H n => ∃ x, pre x ∧ (vals, H) = S x ∧ (O x).get = some o ∧ μ x = n
    refine loop_ok (T := T) (ip := ip) (fun vals H => leastN (Q vals H)) hL fun vals H o' h => ?_
    obtain ⟨rfl, x0, h1, h2, h3⟩ := relSpec_get (Sp := fun vals H o => ∃ x, pre x ∧ (vals, H) = S x ∧ (O x).get = some o) (show (relSpec _ o vals H).get = some o' from h)
    obtain ⟨x, p1, p2, p3, p4⟩ := leastN_mem (p := Q vals H) ⟨μ x0, x0, h1, h2, h3, rfl⟩
    obtain ⟨r, r1, r2⟩ := Tree.sat_iff.1 (hr x o' p1 p3)
    have e1 : (S x).1 = vals := congrArg Prod.fst p2.symm
    have e2 : (S x).2 = H := congrArg Prod.snd p2.symm
    rw [e1, e2] at r1
    refine Tree.sat_iff.2 ⟨r, r1, ?_⟩
    unfold OwesX at r2
    unfold Owes
    cases hx : r.ex with
    | normal =>
      rw [hx] at r2
      obtain ⟨x', k1, k2, k3, k4, k5⟩ := r2
      refine ⟨(S x').1, (S x').2, k1, k2, relSpec_of (Sp := fun vals H o => ∃ x, pre x ∧ (vals, H) = S x ∧ (O x).get = some o) ⟨x', k3, rfl, k4⟩, ?_⟩
      refine Nat.lt_of_le_of_lt (leastN_le ⟨x', k3, rfl, k4, rfl⟩) ?_
      rw [← p4]; exact k5
    | exit i => rw [hx] at r2; exact r2
    | ret => rw [hx] at r2; exact r2
  intro vals H o h
  refine key o vals H o (show (relSpec (fun vals H o => ∃ x, pre x ∧ (vals, H) = S x ∧ (O x).get = some o) o vals H).get = some o from relSpec_of ?_)
  unfold LSpec.by at h
  simp only at h
  split at h
  · rename_i x hx
    obtain ⟨h1, h⟩ := Tree.chk_get h
    obtain ⟨h2, h⟩ := Tree.chk_get h
    exact ⟨x, of_decide_eq_true h2, of_decide_eq_true h1, h⟩
  · simp [Tree.get] at h
open Classical in
noncomputable def bySpec (ext : List AV → List Blk → Option X) (A : X → List AV × List Blk) (pre : X → Prop) (O : X → Tree Res) (args : List AV) (Hin : List Blk) : Tree Res :=
  match ext args Hin with
  | some x => .chk (decide ((args, Hin) = A x)) (.chk (decide (pre x)) (O x))
  | none => .fail
open Classical in
noncomputable def CT.by (f : FuncId) (fn : Func) (c : Code) (T : List (CT P Γ)) (L : X → Nat → LSpec) (ip : Bool) (ntmps : Nat) (results : List ResultVar) (ext : List AV → List Blk → Option X) (A : X → List AV × List Blk) (pre : X → Prop) (O : X → Tree Res)
    (hf : P.funcs[f]? = some fn) (hb : fn.body = some c) (hr : fn.results.toList = results)
    (hnt : fn.ntmps = ntmps) (hn : (fn.name == "runtime.NumGoroutine") = false)
    (hL : ∀ x, pre x → ∀ (j : Nat) (b : Code), (loopBodies c)[j]? = some b → LoopOK P Γ (A x).2.length ntmps b (L x j))
    (hs : ∀ x r, pre x → (O x).get = some r → (A x).1.length ≤ ntmps ∧ Meets (bodyE T (L x) ip ntmps results c (A x).1 (A x).2) r.val (r.heap (A x).2)) : CT P Γ where
  f := f
  spec := bySpec ext A pre O
  enters := callFunc_enters hf (by rw [hb]; rfl) hn
  ok := fun args Hin r h => by
    unfold bySpec at h
    split at h
    · rename_i x hx
      obtain ⟨h1, h⟩ := Tree.chk_get h
      obtain ⟨h2, h⟩ := Tree.chk_get h
      have h1 := decide_eq_true_iff.1 h1
      have h2 := decide_eq_true_iff.1 h2
      obtain ⟨k1, k2⟩ := hs x r h2 h
      obtain ⟨rfl, rfl⟩ : args = (A x).1 ∧ Hin = (A x).2 := by rw [← h1]; exact ⟨rfl, rfl⟩
      subst hr; subst hnt
      exact contract_of (T := T) (ip := ip) hf hb (L x) (hL x h2) k1 k2.ok
    · simp [Tree.get] at h
end
def bsF (t : ByteArray) : Nat → List AV := fun j => [.v (.int .u8 (sbyte t j))]
theorem sbyte_range (t : ByteArray) (j : Nat) : 0 ≤ sbyte t j ∧ sbyte t j < 256 := by
  unfold sbyte
  have := (t.data[j]?.getD 0).toNat_lt
  omega
theorem allBytes_bsF (n : Nat) (t : ByteArray) : allBytes n (bsF t) = true := by
  unfold allBytes
  rw [List.all_eq_true]
  intro j _
  rfl
theorem textOf_bsF (t : ByteArray) : textOf t.size (bsF t) = t := by
  unfold textOf
  have : ((List.range t.size).map fun j => byteIn (bsF t j)) = t.data.toList := by
    refine List.ext_getElem? fun j => ?_
    simp only [List.getElem?_map, Array.getElem?_toList]
    rcases Nat.lt_or_ge j t.size with h | h
    · rw [List.getElem?_range h]
      have hd : t.data[j]? = some t.data[j] := by simp [show j < t.data.size from h]
      rw [hd]
      simp [bsF, byteIn, sbyte, hd]
    · rw [List.getElem?_eq_none (by simpa using h), Array.getElem?_eq_none (by simpa using h)]; rfl
  rw [this]
theorem textOf_bs {n : Nat} {t : ByteArray} (h : n = t.size) : textOf n (bsF t) = t := by rw [h, textOf_bsF]
end Go.Eng

namespace Go.Eng
open Go
theorem sbyte_append (a b : ByteArray) (j : Nat) : sbyte (a ++ b) j = if j < a.size then sbyte a j else sbyte b (j - a.size) := by
  unfold sbyte
  simp only [ByteArray.data_append, Array.getElem?_append]
  split
  · rename_i h; rw [if_pos (by simpa using h)]
  · rename_i h; rw [if_neg (by simpa using h)]; rfl
theorem or128 (a : Int) (h : 0 ≤ a) (h' : a < 256) : bitI .or .u8 a 128 = a % 128 + 128 := by
  obtain ⟨n, rfl⟩ := Int.eq_ofNat_of_zero_le h
  have : ∀ k : Fin 256, bitI .or .u8 ((k.val : Nat) : Int) 128 = ((k.val : Nat) : Int) % 128 + 128 := by decide +kernel
  exact this ⟨n, by omega⟩
theorem wrap64E {x : Int} : IntKind.i64.wrap x = (x + 9223372036854775808) % 18446744073709551616 - 9223372036854775808 := by
  simp [IntKind.wrap, IntKind.signed, IntKind.bits]
  omega
theorem wrapU8 {x : Int} : IntKind.u8.wrap x = x % 256 := by
  simp [IntKind.wrap, IntKind.signed, IntKind.bits]
theorem wrapU64 {x : Int} : IntKind.u64.wrap x = x % 18446744073709551616 := by
  simp [IntKind.wrap, IntKind.signed, IntKind.bits]
theorem wrapU32 {x : Int} : IntKind.u32.wrap x = x % 4294967296 := by
  simp [IntKind.wrap, IntKind.signed, IntKind.bits]
def oneB (n : Nat) : ByteArray := ⟨#[UInt8.ofNat n]⟩
@[simp] theorem oneB_size (n : Nat) : (oneB n).size = 1 := rfl
theorem sbyte_oneB {n : Nat} (h : n < 256) : sbyte (oneB n) 0 = (n : Int) := by
  show (((UInt8.ofNat n).toNat : Nat) : Int) = _
  simp
  omega
theorem sbyte_out {t : ByteArray} {j : Nat} (h : t.size ≤ j) : sbyte t j = 0 := by
  unfold sbyte
  rw [Array.getElem?_eq_none (by simpa using h)]; rfl
theorem bs_eq {a b : ByteArray} (hs : a.size = b.size) (h : ∀ j, j < a.size → sbyte a j = sbyte b j) : a = b := by
  have : a.data = b.data := by
    refine Array.ext hs fun i h1 h2 => ?_
    have := h i h1
    unfold sbyte at this
    simp only [Array.getElem?_eq_getElem h1, Array.getElem?_eq_getElem h2, Option.getD_some] at this
    exact UInt8.toNat_inj.1 (by omega)
  cases a; cases b; simp at this; rw [this]
def hiB (n : Nat) : ByteArray := if h : n < 128 then ⟨#[]⟩ else oneB (n % 128 + 128) ++ hiB (n / 128)
termination_by n
decreasing_by omega
def loN (n : Nat) : Nat := if h : n < 128 then n else loN (n / 128)
termination_by n
decreasing_by omega
def numB (n : Nat) : ByteArray := hiB n ++ oneB (loN n)
theorem hiB_lt {n : Nat} (h : n < 128) : hiB n = ⟨#[]⟩ := by rw [hiB, dif_pos h]
theorem hiB_ge {n : Nat} (h : ¬ n < 128) : hiB n = oneB (n % 128 + 128) ++ hiB (n / 128) := by rw [hiB, dif_neg h]
theorem loN_lt {n : Nat} (h : n < 128) : loN n = n := by rw [loN, dif_pos h]
theorem loN_ge {n : Nat} (h : ¬ n < 128) : loN n = loN (n / 128) := by rw [loN, dif_neg h]
theorem loN_small (n : Nat) : loN n < 128 := by
  induction n using Nat.strongRecOn with
  | _ n ih =>
    by_cases h : n < 128
    · rw [loN_lt h]; exact h
    · rw [loN_ge h]; exact ih _ (by omega)
theorem hiB_size (n : Nat) (k : Nat) (h : n < 128 ^ (k + 1)) : (hiB n).size ≤ k := by
  induction k generalizing n with
  | zero => rw [hiB_lt (by simpa using h)]; exact Nat.le_refl _
  | succ k ih =>
    by_cases hn : n < 128
    · rw [hiB_lt hn]; exact Nat.zero_le _
    · rw [hiB_ge hn]
      have := ih (n / 128) (by rw [Nat.div_lt_iff_lt_mul (by decide)]; rw [Nat.pow_succ] at h; exact h)
      simp only [ByteArray.size_append, oneB_size]; omega
theorem numB_size {n : Nat} (h : n ≤ 4611686018427387904) : (numB n).size ≤ 9 ∧ 1 ≤ (numB n).size := by
  unfold numB
  have := hiB_size n 8 (by omega)
  simp only [ByteArray.size_append, oneB_size]; omega
theorem append_empty (t : ByteArray) : t ++ (⟨#[]⟩ : ByteArray) = t := by
  apply bs_eq
  · simp
    rfl
  · intro j hj
    rw [sbyte_append]
    split
    · rfl
    · rename_i h
      have : (t ++ (⟨#[]⟩ : ByteArray)).size = t.size := by simp; rfl
      omega
theorem empty_append (t : ByteArray) : (⟨#[]⟩ : ByteArray) ++ t = t := by
  apply bs_eq
  · simp
    rfl
  · intro j hj
    rw [sbyte_append]
    split
    · rename_i h; exact absurd h (Nat.not_lt_zero _)
    · rfl
theorem push_eq {t : ByteArray} {v : Int} (h : 0 ≤ v) (h' : v < 256) {j : Nat} (hj : j < t.size + 1) :
    (bif decide (j < t.size) then sbyte t ((0 : Nat) + j) else bif ((0 : Nat) + (j - t.size)).beq (0 : Nat) then v else (0 : Int)) = sbyte (t ++ oneB v.toNat) j := by
  rw [sbyte_append]
  by_cases hl : j < t.size
  · rw [decide_eq_true hl, if_pos hl, Nat.zero_add]; rfl
  · obtain rfl : j = t.size := by omega
    rw [decide_eq_false hl, if_neg hl, Nat.sub_self, sbyte_oneB (by omega)]
    simp
    omega
theorem textOf_one (v : Int) : (textOf (1 : Nat) fun j => [AV.v (Value.int IntKind.u8 (bif ((0 : Nat) + j).beq (0 : Nat) then v else (0 : Int)))]) = oneB v.toNat := rfl
theorem tdiv_nat (n k : Nat) : (n : Int).tdiv (k : Int) = ((n / k : Nat) : Int) := by
  rw [Int.tdiv_eq_ediv_of_nonneg (by omega)]; rfl
theorem tmod_nat (n k : Nat) : (n : Int).tmod (k : Int) = ((n % k : Nat) : Int) := by
  rw [Int.tmod_eq_emod_of_nonneg (by omega)]; rfl
theorem bsF_len (t : ByteArray) (e : Nat) : (bsF t e).length = 1 := rfl
end Go.Eng

namespace Go.Eng
open Go
noncomputable def cl (p : Prop) : Bool := @decide p (Classical.propDecidable p)
theorem cl_iff {p : Prop} : cl p = true ↔ p := by unfold cl; exact @decide_eq_true_iff p (Classical.propDecidable p)
section
variable {P : Program} {Γ : Nat → AV} {m : Nat} {X : Type}
noncomputable def LSpec.at (live : List Nat) (nils : List (Nat × TypeId)) (s : List AV × Heap) (o : Out) : LSpec :=
  ⟨live, nils, fun vals H => .chk (cl (LeL vals s.1 ∧ LeH H s.2)) (.leaf o)⟩
def OwesA (S : X → List AV × Heap) (pre : X → Prop) (O : X → Out) (μ : X → Nat) (n : Nat) (o r : Out) : Prop :=
  match r.ex with
  | .normal => ∃ x', LeL r.fr (S x').1 ∧ LeH r.H (S x').2 ∧ pre x' ∧ O x' = o ∧ μ x' < n
  | _ => r.ex = o.ex ∧ LeL r.fr o.fr ∧ LeH r.H o.H
structure RoundOK (P : Program) (Γ : Nat → AV) (m N k : Nat) (b : Code) (live : List Nat) (nils : List (Nat × TypeId)) (s : List AV × Heap) (Q : Out → Prop) : Prop where
  ok : ∃ (T : List (CT P Γ)) (L : Nat → LSpec) (ip : Bool), (∀ (j : Nat) (b' : Code), (loopBodies b)[j]? = some b' → LoopOK P Γ m N b' (L (k + j))) ∧ (roundE T L ip m k b live nils N s.1 s.2).sat Q
theorem loop_at {N k : Nat} {b : Code} {live : List Nat} {nils : List (Nat × TypeId)} {S : X → List AV × Heap} {pre : X → Prop} {O : X → Out} (μ : X → Nat)
    (hr : ∀ x, pre x → RoundOK P Γ m N k b live nils (S x) (OwesA S pre O μ (μ x) (O x))) : ∀ x, pre x → LoopOK P Γ m N b (LSpec.at live nils (S x) (O x)) := by
  intro x0 hp0 vals0 H0 o h0 κ σ0 φ0 a0 w0 Q hG0 hN0 hI0 hQ
  obtain ⟨hs0, h0⟩ := Tree.chk_get (show (Tree.chk _ (Tree.leaf (O x0))).get = some o from h0)
  obtain rfl := Tree.leaf_get h0
  obtain ⟨hle1, hle2⟩ := cl_iff.1 hs0
  let J : Act → World → Nat → Prop := fun a w n => ∃ x σ φ, pre x ∧ O x = O x0 ∧ σ0.le σ ∧ (∀ k, k < m → φ k = φ0 k) ∧ a.defers = a0.defers ∧ a.tmps.size = N ∧
    Inv κ m σ φ (expand N live (S x).1) (S x).2 a w ∧ μ x = n
  refine wp_loop (fun a w => ∃ n, J a w n) (fun a w => leastN (J a w)) ⟨_, x0, σ0, φ0, hp0, rfl, Store.le_refl _, fun _ _ => rfl, rfl, hN0, hI0.le hle1 hle2, rfl⟩ ?_
  intro a w hJ
  obtain ⟨x, σ, φ, hs, ho, e1, e2, e3, e4, hI, hn⟩ := leastN_mem hJ
  obtain ⟨T, L, ip, hL, hrr⟩ := (hr x hs).ok
  obtain ⟨r, hr1, hr2⟩ := Tree.sat_iff.1 hrr
  unfold roundE at hr1
  obtain ⟨o1, ho1, ho2⟩ := Tree.get_bind_some hr1
  refine code_ok b k _ (S x).2 o1 σ φ a w _ hL ho1 hI (hG0.mono e1) expand_len ?_
  intro a' w' σ' φ' f1 f2 f3 f4 hI'
  split at ho2
  · rename_i vals' H' hh
    simp only [Tree.get, Option.some.injEq] at ho2
    subst ho2
    obtain ⟨φ2, g1, hI2⟩ := head_ok hh hI'
    have hN' : a'.tmps.size = N := hI'.tmps.trans f4
    rw [hN'] at hI2
    unfold OwesA at hr2
    cases hex : o1.ex with
    | normal =>
      simp only [hex] at hr2
      obtain ⟨x', k1, k2, k3, k5, k4⟩ := hr2
      have hJ' : J a' w' (μ x') := ⟨x', σ', φ2, k3, k5.trans ho, Store.le_trans e1 f1, fun k hk => (g1 k hk).trans ((f2 k hk).trans (e2 k hk)), f3.trans e3, hN', hI2.le k1 k2, rfl⟩
      refine ⟨⟨_, hJ'⟩, Nat.lt_of_le_of_lt (leastN_le hJ') ?_⟩
      rw [← hn]; exact k4
    | exit id =>
      simp only [hex, ho] at hr2
      obtain ⟨k1, k2, k3⟩ := hr2
      have := hQ a' w' σ' φ2 (Store.le_trans e1 f1) (fun k hk => (g1 k hk).trans ((f2 k hk).trans (e2 k hk))) (f3.trans e3) hN' (hI2.le k2 k3)
      rw [← k1] at this
      exact this
    | ret =>
      simp only [hex, ho] at hr2
      obtain ⟨k1, k2, k3⟩ := hr2
      have := hQ a' w' σ' φ2 (Store.le_trans e1 f1) (fun k hk => (g1 k hk).trans ((f2 k hk).trans (e2 k hk))) (f3.trans e3) hN' (hI2.le k2 k3)
      rw [← k1] at this
      exact this
  · simp [Tree.get] at ho2
theorem Contract.more {f : FuncId} {args a0 : List AV} {Hin H0 : List Blk} {r r0 : Res} (h : Contract P Γ f a0 H0 r0) (hv : LeL args a0) (hH : LeH (Hin.map some) (H0.map some)) (he : r0.heap H0 = r.heap Hin) (hval : r0.val = r.val) : Contract P Γ f args Hin r := by
  intro σ φ w vals hG hV hn hR
  have hlen : Hin.length = H0.length := by simpa using hH.len
  have := h σ φ w vals hG ⟨by rw [← hV.1]; exact hv.len.symm, fun j c y hc hy => by
    obtain ⟨x, h1, h2⟩ := hv.at j c hc
    exact h2.v (hV.2 j x y h1 hy)⟩ (by rw [← hlen]; exact hn) (hR.le fun i b' hb => hH.get i b' hb)
  refine this.mono fun e w' ⟨σ', φ', v, e1, e2, e3, e4, e5⟩ => ⟨σ', φ', v, e1, by rw [← hval]; exact e2, by rw [← he]; exact e3, by rw [hlen]; exact e4, by rw [← he]; exact e5⟩
noncomputable def atSpec (a0 : List AV) (H0 : List Blk) (v : AV) (H1 : List (Option Blk)) (new : List Blk) (args : List AV) (Hin : List Blk) : Tree Res :=
  .chk (cl (LeL args a0 ∧ LeH (Hin.map some) (H0.map some))) (.leaf { val := v, upd := H1.map some, new := new })
def CT.funL (f : FuncId) (fn : Func) (c : Code) (T : List (CT P Γ)) (L : List KC → Nat → LSpec) (ip : Bool) (ntmps : Nat) (results : List ResultVar) (sh : List Sh) (pre : List KC → Bool) (g : List KC → AV) (hf : P.funcs[f]? = some fn) (hb : fn.body = some c) (hr : fn.results.toList = results)
    (hnt : fn.ntmps = ntmps) (hn : (fn.name == "runtime.NumGoroutine") = false) (hsz : sh.length ≤ ntmps) (hL : ∀ l, kFit (shCels sh) l = true → pre l = true → ∀ (j : Nat) (b : Code), (loopBodies c)[j]? = some b → LoopOK P Γ 0 ntmps b (L l j))
    (hs : ∀ l, kFit (shCels sh) l = true → pre l = true → Gives (bodyE T (L l) ip ntmps results c (toSh sh l) []) (g l)) : CT P Γ where
  f := f
  spec := funSpec sh pre g
  enters := callFunc_enters hf (by rw [hb]; rfl) hn
  ok := fun args Hin r h => by
    unfold funSpec at h
    split at h
    · split at h
      · rename_i l hl
        obtain ⟨hp, h⟩ := Tree.chk_get h
        obtain rfl := Tree.leaf_get h
        by_cases hfit : kFit (shCels sh) l = true
        · have hlen := toSh_len sh l
          subst hr; subst hnt
          exact (contract_of (T := T) (ip := ip) (Hin := []) (r := { val := g l }) hf hb (L l) (hL l hfit hp) (by rw [hlen]; exact hsz) (hs l hfit hp).ok).weak fun σ φ ys hv => (unSh_ok hl hv).2
        · intro σ φ w vals hG hV
          exact absurd (unSh_ok hl hV).1 hfit
      · simp [Tree.get] at h
    · simp [Tree.get] at h
structure Answers (P : Program) (Γ : Nat → AV) (f : FuncId) (a0 : List AV) (H0 : List Blk) (v : AV) (H1 : List (Option Blk)) (new : List Blk) : Prop where
  len : H1.length = H0.length
  enters : ∀ (args : Array Value) (w : World), (callFunc f args).run P w = .ok (.enter f args) w
  ok : Contract P Γ f a0 H0 { val := v, upd := H1.map some, new := new }
theorem outOf_all : ∀ (Hin : List Blk) (us : List (Option Blk)), us.length = Hin.length → outOf Hin (us.map some) = us := outOf_somes
noncomputable def CT.at (f : FuncId) {a0 : List AV} {H0 : List Blk} {v : AV} {H1 : List (Option Blk)} {new : List Blk} (h : Answers P Γ f a0 H0 v H1 new) : CT P Γ where
  f := f
  spec := atSpec a0 H0 v H1 new
  enters := h.enters
  ok := fun args Hin r hr => by
    obtain ⟨h1, h2⟩ := Tree.chk_get hr
    obtain rfl := Tree.leaf_get h2
    obtain ⟨hv, hH⟩ := cl_iff.1 h1
    refine h.ok.more hv hH ?_ rfl
    have hlen : Hin.length = H0.length := by simpa using hH.len
    unfold Res.heap
    rw [outOf_all _ _ h.len, outOf_all _ _ (h.len.trans hlen.symm)]
theorem answers {f : FuncId} {fn : Func} {c : Code} (T : List (CT P Γ)) (L : Nat → LSpec) (ip : Bool) {ntmps : Nat} {results : List ResultVar} {a0 : List AV} {H0 : List Blk} {v : AV} {H1 : List (Option Blk)} {new : List Blk}
    (hf : P.funcs[f]? = some fn) (hb : fn.body = some c) (hr : fn.results.toList = results) (hnt : fn.ntmps = ntmps) (hn : (fn.name == "runtime.NumGoroutine") = false) (hsz : a0.length ≤ ntmps) (hlen : H1.length = H0.length)
    (hL : ∀ (j : Nat) (b : Code), (loopBodies c)[j]? = some b → LoopOK P Γ H0.length ntmps b (L j))
    (hs : Meets (bodyE T L ip ntmps results c a0 H0) v (H1 ++ new.map some)) : Answers P Γ f a0 H0 v H1 new where
  len := hlen
  enters := callFunc_enters hf (by rw [hb]; rfl) hn
  ok := by
    subst hr; subst hnt
    refine contract_of (T := T) (ip := ip) hf hb L hL hsz ?_
    have e : ({ val := v, upd := H1.map some, new := new } : Res).heap H0 = H1 ++ new.map some := by
      unfold Res.heap
      rw [outOf_all _ _ hlen]
    rw [e]
    exact hs.ok
end
end Go.Eng

namespace Go.Eng
open Go Go.ChangeShapes
theorem textOf_size (n : Nat) (f : Nat → List AV) : (textOf n f).size = n := by
  unfold textOf
  show ((List.range n).map _).toArray.size = n
  simp
theorem sbyte_textOf {n j : Nat} {f : Nat → List AV} {v : Int} (hj : j < n) (hf : f j = [.v (.int .u8 v)]) (h : 0 ≤ v) (h' : v < 256) : sbyte (textOf n f) j = v := by
  unfold textOf sbyte
  simp only [List.getElem?_toArray, List.getElem?_map, List.getElem?_range hj, Option.map_some, Option.getD_some, hf, byteIn]
  simp
  omega
structure LawOK (P : Program) (Γ : Nat → AV) (ntmps : Nat) (results : List ResultVar) (c : Code) (args : List AV) : Prop where
  ok : ∃ (T : List (CT P Γ)) (L : Nat → LSpec) (ip : Bool), (∀ (j : Nat) (b : Code), (loopBodies c)[j]? = some b → LoopOK P Γ 0 ntmps b (L j)) ∧ Right (bodyE T L ip ntmps results c args [])
theorem LawOK.mk' {P : Program} {Γ : Nat → AV} {ntmps : Nat} {results : List ResultVar} {c : Code} {args : List AV} {T : List (CT P Γ)} {L : Nat → LSpec} {ip : Bool} (hL : ∀ (j : Nat) (b : Code), (loopBodies c)[j]? = some b → LoopOK P Γ 0 ntmps b (L j))
    (h : Right (bodyE T L ip ntmps results c args [])) : LawOK P Γ ntmps results c args := ⟨T, L, ip, hL, h⟩
noncomputable def CT.lawE {P : Program} {Γ : Nat → AV} {X : Type} (A : X → List AV) (pre : X → Prop) (f : FuncId) (fn : Func) (c : Code) (ntmps : Nat) (results : List ResultVar) (hf : P.funcs[f]? = some fn) (hb : fn.body = some c) (hr : fn.results.toList = results)
    (hnt : fn.ntmps = ntmps) (hn : (fn.name == "runtime.NumGoroutine") = false) (hsz : ∀ x, pre x → (A x).length ≤ ntmps) (hs : ∀ x, pre x → LawOK P Γ ntmps results c (A x)) : CT P Γ where
  f := f
  spec := lawSpec A pre
  enters := callFunc_enters hf (by rw [hb]; rfl) hn
  ok := fun args Hin r h => by
    obtain ⟨rfl, rfl, x, hp, rfl⟩ := lawSpec_get h
    obtain ⟨T, L, ip, hL, h⟩ := (hs x hp).ok
    subst hr; subst hnt
    exact contract_of (T := T) (ip := ip) hf hb L hL (hsz x hp) h.ok
def bArg : Option ByteArray → AV
  | none => .v (.slice none 0 0)
  | some t => .sl 1 t.size (bsF t)
section
variable {H : Type} {enc : TypeId × Value → H} {P : Program} {w : World} {base : Nat} {sp : Nat → Bool} {held : Bool}
theorem V0.bytes {σ : Store} {m : Nat} {g : Nat → Int} {v : Value} (h : V0 σ (.sl 1 m fun i => [.v (.int .u8 (g i))]) v) (hw : ∀ i, i < m → 0 ≤ g i ∧ g i < 256) :
    V0 σ (bArg (some (textOf m fun i => [.v (.int .u8 (g i))]))) v := by
  have hs := textOf_size m fun i => [AV.v (.int .u8 (g i))]
  show V0 σ (.sl 1 _ _) v
  rw [hs]
  cases h with
  | sl _ _ _ ad cap ys hsp hn hl hm ho hv =>
    refine .sl 1 m _ ad cap ys hsp hn (fun _ => rfl) (fun e j c he hc => ?_) (fun e j c he hc => ?_) (fun e j c he hc => ?_)
    · cases j with
      | zero => exact hm e 0 (.v (.int .u8 (g e))) he rfl
      | succ j => simp [bsF] at hc
    · cases j with
      | zero => exact ho e 0 (.v (.int .u8 (g e))) he rfl
      | succ j => simp [bsF] at hc
    · cases j with
      | zero =>
        have h1 := hv e 0 (.v (.int .u8 (g e))) he rfl
        simp only [bsF, List.getElem?_cons_zero, Option.some.injEq] at hc
        subst hc
        rw [sbyte_textOf he rfl (hw e he).1 (hw e he).2]
        exact h1
      | succ j => simp [bsF] at hc
  | slnil _ _ _ A cap hl hn ha => exact .slnil 1 m _ A cap (fun _ => rfl) hn ha
theorem open_bytes {t e : TypeId} {v : Value} {r : Reach} {b0 : Nat} {d : DataW H} {ps : List MemPlace} (ht : P.underlying t = some (.slice e)) (he : P.underlying e = some (.int .u8)) (hc : P.cellsOf e = 1)
    (hval : Value.okWide P w r b0 t v) (h : DataW.Trod enc P w base sp held t v d ps) : ∃ x : Option ByteArray, V0 (σof w) (bArg x) v := by
  rcases open_sl ht he hc hval h with rfl | ⟨m, g, h1, h2⟩
  · exact ⟨none, .v _⟩
  · refine ⟨_, h1.bytes fun i hi => ?_⟩
    have := h2 i hi
    simp [Lit.wf, IntKind.min, IntKind.max, IntKind.signed, IntKind.bits] at this
    omega
end
end Go.Eng

namespace Go.Eng
open Go Go.ChangeShapes
theorem goodV_one {k : Cel} {v : Value} (h : goodV k v) : v.oneCell' = true := by
  cases k with
  | int k => obtain ⟨n, rfl, _⟩ := h; rfl
  | bool => obtain ⟨b, rfl⟩ := h; rfl
  | str => obtain ⟨s, rfl, _⟩ := h; rfl
theorem GoodVs.at : ∀ {ks : List Cel} {vs : List Value}, GoodVs ks vs → ∀ (j : Nat) (v : Value), vs[j]? = some v → ∃ k, goodV k v
  | k :: ks, v :: vs, h, 0, _, e => by simp at e; subst e; exact ⟨k, h.1⟩
  | _ :: ks, _ :: vs, h, j + 1, _, e => GoodVs.at h.2 j _ (by simpa using e)
  | [], [], _, j, _, e => by simp at e
  | [], _ :: _, h, _, _, _ => h.elim
  | _ :: _, [], h, _, _, _ => h.elim
section
variable {H : Type} {enc : TypeId × Value → H} {P : Program} {w : World} {base : Nat} {sp : Nat → Bool} {held : Bool}
theorem open_slG {α : Type} [Inhabited α] (D : Nat) (cells : α → List Value) {ks : List Cel} {sz : Nat} (hsz : ks.length = sz) (hcl : ∀ a, (cells a).length = sz) (hdec : ∀ vs, GoodVs ks vs → ∃ a, vs = cells a)
    {t e : TypeId} {v : Value} {r : Reach} {b0 : Nat} {d : DataW H} {ps : List MemPlace} (ht : P.underlying t = some (.slice e)) (hk : ckT P D e = some ks) (hc : P.cellsOf e = sz)
    (hval : Value.okWide P w r b0 t v) (h : DataW.Trod enc P w base sp held t v d ps) :
    v = .slice none 0 0 ∨ ∃ (m : Nat) (g : Nat → α), V0 (σof w) (.sl sz m fun i => (cells (g i)).map AV.v) v ∧ ∀ i, i < m → GoodVs ks (cells (g i)) := by
  obtain ⟨fuel, h⟩ := h
  have hv : v = .slice none 0 0 ∨ ∃ a len cap, v = .slice (some a) len cap ∧ a.spot = none := by
    unfold Value.okWide at hval
    rw [ht] at hval
    simp only at hval
    unfold Cell.okWide at hval
    rw [ht] at hval
    unfold Cell.ok at hval
    rw [ht] at hval
    cases v with
    | slice a len cap =>
      cases a with
      | none => left; match len, cap, hval with | 0, 0, _ => rfl
      | some a => right; exact ⟨a, len, cap, rfl, hval.2.2.2.1⟩
    | _ => exact hval.elim
  rcases hv with rfl | ⟨a, len, cap, rfl, hsp⟩
  · exact .inl rfl
  rcases DataW.trod_slice ht h with ⟨h0, _⟩ | ⟨a', len', cap', elems, rest, n, _, h0, _, hb, hl, hm, hlen, hel, _, _⟩
  · have := (List.cons.inj h0).1; simp at this
  have h1 := (List.cons.inj h0).1
  simp only [Value.slice.injEq, Option.some.injEq] at h1
  obtain ⟨rfl, rfl, rfl⟩ := h1
  have each : ∀ i, i < len → ∃ x : α, GoodVs ks (cells x) ∧ ∀ (j : Nat) (c : Value), (cells x)[j]? = some c → σof w a.block (a.off + i * sz + j) = some c := by
    intro i hi
    have h2 := hel i hi
    rw [List.getElem?_eq_getElem (by omega), Option.bind_eq_some_iff] at h2
    obtain ⟨cs, h3, h4⟩ := h2
    have hg := trod_good D n h4 hk
    obtain ⟨x, rfl⟩ := hdec cs hg
    refine ⟨x, hg, fun j c hj => ?_⟩
    have hjl : j < sz := by have := (List.getElem?_eq_some_iff.1 hj).1; rw [hcl] at this; exact this
    have h5 := (World.cells?_some h3).2.2 j (by rw [hc]; exact hjl)
    rw [hj] at h5
    have e2 : (a.add (i * P.cellsOf e)).add j = ⟨a.block, a.off + i * sz + j, none⟩ := by
      rw [hc]
      unfold Addr.add
      obtain ⟨ab, ao, asp⟩ := a
      simp only at hsp
      subst hsp
      by_cases h0 : i * sz = 0
      · by_cases h1 : j = 0
        · simp [h0, h1]
        · simp [h0, h1]
      · by_cases h1 : j = 0
        · simp [h0, h1]
        · simp [h0, h1]
    rw [e2] at h5
    exact σof_of h5
  refine .inr ⟨len, fun i => if h : i < len then (each i h).choose else default, ?_, fun i hi => ?_⟩
  · refine .sl sz len _ a cap (fun e j => ((cells (if h : e < len then (each e h).choose else default))[j]?).getD (.bool false)) hsp hl (fun i => by simp [hcl]) (fun e j c he hj => ?_) (fun e j c he hj => ?_) (fun e j c he hj => ?_)
    all_goals
      simp only [List.getElem?_map, Option.map_eq_some_iff] at hj
      obtain ⟨y, hy, rfl⟩ := hj
      rw [hy, Option.getD_some]
    · rw [dif_pos he] at hy
      exact (each e he).choose_spec.2 j y hy
    · rw [dif_pos he] at hy
      obtain ⟨k, hk'⟩ := (each e he).choose_spec.1.at j y hy
      exact goodV_one hk'
    · exact .v _
  · show GoodVs ks (cells (if h : i < len then (each i h).choose else default))
    rw [dif_pos hi]
    exact (each i hi).choose_spec.1
end
end Go.Eng

namespace Go.Eng
open Go
section
variable {P : Program} {Γ : Nat → AV}
theorem VL.one_inv {σ : Store} {φ : Places} {x : AV} {ys : List Value} (h : VL σ φ [x] ys) : ∃ y, ys = [y] ∧ V σ φ x y := by
  match ys, h with
  | [y], h => exact ⟨y, rfl, h.2 0 x y rfl rfl⟩
  | [], h => have := h.1; simp at this
  | _ :: _ :: _, h => have := h.1; simp at this
theorem Contract.nilOr {f : FuncId} {b : Blk} {sz : Nat} {z : List AV} (hz : z.length = sz) {M : List AV} (hM : M.length = sz) (h1 : Contract P Γ f [.v (.slice none 0 0)] [b] { val := .v (.slice none 0 0), upd := [some (some b)] })
    (h2 : Contract P Γ f [.sl sz 0 fun _ => M] [b] { val := .hs 1 0 0, upd := [some (some b)], new := [.arr sz 0 fun _ => z] }) :
    Contract P Γ f [.hs 0 0 0] [b] { val := .hs 1 0 0, upd := [some (some b)], new := [.arr sz 0 fun _ => z] } := by
  intro σ φ w vals hG hV hn hR
  obtain ⟨y, hy, hv⟩ := hV.one_inv
  have hsl : ∀ (A : Option Addr) (cap : Nat), A ≠ none → y = .slice A 0 cap → VL σ φ [.sl sz 0 fun _ => M] vals.toList := fun A cap hA e => by
    rw [hy, e]
    exact .one (.base (.slnil sz 0 _ A cap (fun _ => hM) rfl (fun h => absurd h hA))) .none
  cases hv with
  | base h => cases h
  | hs h hr _ he hx hc => exact h2 σ φ w vals hG (hsl _ _ (by simp) rfl) hn hR
  | hsnil A h he _ =>
    by_cases hA : A = none
    · subst hA
      refine (h1 σ φ w vals hG (by rw [hy]; exact .one (V_v _) .none) hn hR).mono fun e w' ⟨σ', φ', v, e1, e2, e3, e4, e5⟩ => ?_
      have hnb : φ' 1 = none := e5 1 (Nat.le_refl 1)
      have hv := e2.v_eq
      subst hv
      have hg : getH (Res.heap [b] { val := .hs 1 0 0, upd := [some (some b)], new := [.arr sz 0 fun _ => z] }) = updG (getH (Res.heap [b] { val := .v (.slice none 0 0), upd := [some (some b)] })) 1 (some (.arr sz 0 fun _ => z)) := by
        funext k
        have := getH_append (H := [some b]) (bs := [Blk.arr sz 0 fun _ => z]) (k := k)
        exact this
      refine ⟨σ', fresh φ' 1 ⟨0, 0, sz, 0, 0, true⟩, _, e1, .hsnil none fresh_at (Nat.le_refl 0) rfl, ?_, fun k hk => ?_, fun k hk => ?_⟩
      · rw [hg]
        exact e3.virtual (L := ⟨0, 0, sz, 0, 0, true⟩) hnb rfl (some (.arr sz 0 fun _ => z)) (fun b' hb' => by simp at hb'; subst hb'; exact fun _ => hz) (fun _ _ _ h' => by cases h'; rfl)
      · have hk' : k < 1 := hk
        have : k ≠ 1 := by omega
        simp only [fresh, this, if_false]
        exact e4 k hk
      · have hk' : 2 ≤ k := hk
        have : k ≠ 1 := by omega
        simp only [fresh, this, if_false]
        exact e5 k (by show 1 ≤ k; omega)
    · exact h2 σ φ w vals hG (hsl _ _ hA rfl) hn hR
theorem Answers.nilOr {f : FuncId} {b : Blk} {sz : Nat} {z : List AV} (hz : z.length = sz) {M : List AV} (hM : M.length = sz) (h1 : Answers P Γ f [.v (.slice none 0 0)] [b] (.v (.slice none 0 0)) [some b] [])
    (h2 : Answers P Γ f [.sl sz 0 fun _ => M] [b] (.hs 1 0 0) [some b] [.arr sz 0 fun _ => z]) : Answers P Γ f [.hs 0 0 0] [b] (.hs 1 0 0) [some b] [.arr sz 0 fun _ => z] where
  len := rfl
  enters := h1.enters
  ok := h1.ok.nilOr hz hM h2.ok
end
end Go.Eng
