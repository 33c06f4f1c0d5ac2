/- An abstract evaluator of the model's code, part Td: regions that draw their order. -/
import Derived.Test.YtnpfcaecaflfbaaDoorEngTc
namespace Go.Eng
open Go
set_option linter.unusedSimpArgs false
set_option linter.unusedVariables false
set_option linter.unnecessarySimpa false

section
variable {P : Program} {Γ : Nat → AV} {κ : Ctx} {m : Nat} {σ : Store} {φ : Places} {w : World} {ip : Bool} {T : List (CT P Γ)}

/-- what a step leaves alone means the same behind it -/
theorem stepE_same {ops : Array Oper} {o : Oper} {s s' : St} (h : (stepE T ip ops o s).get = some s') {t : Nat} (ht : o.dst ≠ some t) (σ : Store) (φ : Places) (v : Value) :
    V σ φ (s'.fr.getD t .any) v ↔ V σ φ (s.fr.getD t .any) v := by
  have put : ∀ {fr : List AV} {x : AV}, (putF fr o.dst x).getD t .any = fr.getD t .any := fun {fr x} => putF_keep fun t' h' e => ht (by rw [h', e])
  have done : ∀ {fr : List AV} {H : Heap} {e : Bool} {nb : Nat} {get : Get} {ρ : Operand → AV}, ((opE T ip nb get ρ o.op).bind fun out => .leaf (doneE ⟨fr, H, e⟩ o out)).get = some s' → s'.fr.getD t .any = fr.getD t .any := by
    intro fr H e nb get ρ he
    obtain ⟨out, _, hd⟩ := Tree.get_bind_some he
    simp only [Tree.get, Option.some.injEq] at hd
    subst hd
    exact put
  have refi : ∀ {t' : Nat} {b : Bool}, s.fr.getD t' .any = .sb b → ∀ c, b = c → (V σ φ ((s.fr.set t' (.v (.bool c))).getD t .any) v ↔ V σ φ (s.fr.getD t .any) v) := by
    intro t' b hb c e
    subst e
    rw [getD_set]
    split
    · rename_i hh
      obtain ⟨rfl, _⟩ := hh
      rw [hb]
      exact ⟨fun hv => by rw [hv.v_eq]; exact V_sb _, fun hv => by rw [hv.sb_eq]; exact V_v _⟩
    · rfl
  unfold stepE at h
  split at h
  · rw [done h]
  · split at h
    · split at h
      · rename_i t' ht'
        split at h
        · split at h
          · rw [done h]
          · simp only [Tree.get, Option.some.injEq] at h
            subst h
            rw [put]
        · simp only [Tree.get, Option.some.injEq] at h
          subst h
          rw [put]
        · rename_i b hb
          split at h
          · cases b with
            | true => simp only [Tree.get] at h; rw [done h]; exact refi hb true rfl
            | false =>
              simp only [Tree.get, Option.some.injEq] at h
              subst h
              rw [put]; exact refi hb false rfl
          · cases b with
            | true =>
              simp only [Tree.get, Option.some.injEq] at h
              subst h
              rw [put]; exact refi hb true rfl
            | false => simp only [Tree.get] at h; rw [done h]; exact refi hb false rfl
        · simp [Tree.get] at h
      · simp [Tree.get] at h
    · simp [Tree.get] at h

theorem stepD_get {ops : Array Oper} {o : Oper} {s s' : St} (h : (stepD T ip ops o s).get = some s') : ∃ s1, (stepE T ip ops o ⟨maskF (slotsOf ops.toList o) 0 s.fr, s.H, s.eff⟩).get = some s1 ∧ s' = ⟨unmaskF (slotsOf ops.toList o ++ o.dst.toList) 0 s.fr s1.fr, s1.H, s1.eff⟩ := by
  obtain ⟨s1, h1, h2⟩ := Tree.get_bind_some h
  simp only [Tree.get, Option.some.injEq] at h2
  exact ⟨s1, h1, h2.symm⟩

theorem stepD_same {ops : Array Oper} {o : Oper} (ho : o ∈ ops.toList) {s s' : St} (h : (stepD T ip ops o s).get = some s') {t : Nat} (ht : o.dst ≠ some t) (σ : Store) (φ : Places) (v : Value) :
    V σ φ (s'.fr.getD t .any) v ↔ V σ φ (s.fr.getD t .any) v := by
  obtain ⟨s1, h1, rfl⟩ := stepD_get h
  have hl : s1.fr.length = s.fr.length := ((step_keeps ho).get h1).1.trans maskF_len
  show V σ φ ((unmaskF _ 0 s.fr s1.fr).getD t .any) v ↔ _
  rw [unmaskF_get hl, Nat.zero_add]
  split
  · rename_i hm
    rw [stepE_same h1 ht σ φ v, maskF_get, Nat.zero_add]
    have : t ∈ slotsOf ops.toList o := by
      rcases List.mem_append.1 (memN_iff.1 hm) with h | h
      · exact h
      · cases hd : o.dst with
        | none => rw [hd] at h; simp at h
        | some t' => rw [hd] at h; simp at h; exact absurd (by rw [hd, h]) ht
    rw [memN_iff.2 this]
  · rfl

/-- a step in whatever world: what it looks at is as it ought to be -/
theorem stepD_ok {ops : Array Oper} {o : Oper} (ho : o ∈ ops.toList) {s s' : St} {a : Act} {Q : Exit → Act → World → Prop} {next : Act → World → Prop} (h : (stepD T ip ops o s).get = some s')
    (hlen : s.fr.length = a.tmps.size) (hF : ∀ t ∈ slotsOf ops.toList o, V σ φ (s.fr.getD t .any) (a.tmps.getD t undef)) (hR : R κ σ φ (getH s.H) w) (hn : ∀ k, s.H.length ≤ k → φ k = none) (hG : Globals Γ σ)
    (hK : ∀ a' w' σ' φ', σ.le σ' → (∀ k, k < s.H.length → φ' k = φ k) → a'.defers = a.defers → a'.tmps.size = a.tmps.size → (∀ t, o.dst ≠ some t → a'.tmps.getD t undef = a.tmps.getD t undef) → (∀ t, o.dst = some t → V σ' φ' (s'.fr.getD t .any) (a'.tmps.getD t undef)) →
      R κ σ' φ' (getH s'.H) w' → (∀ k, s'.H.length ≤ k → φ' k = none) → next a' w') :
    if Region.wanted o (yielded ops a.tmps) then o.wp P a w next Q else next (a.put o.dst undef) w := by
  obtain ⟨s1, h1, rfl⟩ := stepD_get h
  have hk := (step_keeps (T := T) (ip := ip) ho).get h1
  have hl : s1.fr.length = s.fr.length := hk.1.trans maskF_len
  refine step_ok (κ := κ) (m := s.H.length) h1 ⟨Nat.le_refl _, ⟨by rw [maskF_len]; exact hlen, fun t => ?_⟩, hR, hn⟩ hG fun a' w' σ' φ' e1 e2 e3 e4 hI => ?_
  · rw [maskF_get, Nat.zero_add]
    split
    · rename_i hm'; exact hF t (memN_iff.1 hm')
    · exact V_any _
  · refine hK a' w' σ' φ' e1 e2 e3 (by rw [← hI.F.1, hl]; exact hlen) e4 (fun t ht => ?_) hI.R hI.none
    show V σ' φ' ((unmaskF _ 0 s.fr s1.fr).getD t .any) _
    rw [unmaskF_get hl, Nat.zero_add]
    have : memN t (slotsOf ops.toList o ++ o.dst.toList) = true := memN_iff.2 (List.mem_append_right _ (by rw [ht]; simp))
    rw [this]
    exact hI.F.2 t

/-! ### the order -/
theorem Tree.chkX_get {α : Type} {c : Bool} {t : Tree α} {r : α} (h : (Tree.chk c t).get = some r) : c = true ∧ t.get = some r := by
  cases c with
  | true => exact ⟨rfl, h⟩
  | false => simp [Tree.get] at h
theorem Tree.leafX_get {α : Type} {a r : α} (h : (Tree.leaf a).get = some r) : a = r := by
  simp only [Tree.get, Option.some.injEq] at h; exact h
/-- how many write ahead of the k-th -/
def cntX (ef : Nat → Bool) : Nat → Nat
  | 0 => 0
  | k + 1 => cntX ef k + (ef k).toNat
theorem cntX_mono {ef : Nat → Bool} {i j : Nat} (h : i ≤ j) : cntX ef i ≤ cntX ef j := by
  induction j with
  | zero => obtain rfl : i = 0 := by omega
            exact Nat.le_refl _
  | succ j ih =>
    rcases Nat.lt_or_ge j i with hl | hl
    · obtain rfl : i = j + 1 := by omega
      exact Nat.le_refl _
    · exact Nat.le_trans (ih hl) (Nat.le_add_right _ _)
theorem cntX_lt {ef : Nat → Bool} {i j : Nat} (h : i < j) (he : ef i = true) : cntX ef i < cntX ef j := by
  have := cntX_mono (ef := ef) (show i + 1 ≤ j from h)
  simp only [cntX, he, Bool.toNat_true] at this
  omega
theorem cntX_hit {ef : Nat → Bool} {p : Nat} : ∀ {k : Nat}, p < cntX ef k → ∃ e, e < k ∧ ef e = true ∧ cntX ef e = p
  | 0, h => by simp [cntX] at h
  | k + 1, h => by
    by_cases hl : p < cntX ef k
    · obtain ⟨e, h1, h2, h3⟩ := cntX_hit hl
      exact ⟨e, by omega, h2, h3⟩
    · simp only [cntX] at h
      cases he : ef k with
      | false => rw [he] at h; simp at h; omega
      | true => rw [he] at h; simp at h; exact ⟨k, by omega, he, by omega⟩
/-- the states between the operations, in the text's order, and which of them write -/
theorem stepsX_states {ops : Array Oper} : ∀ (l : List Oper) (fr : List AV) (H : Heap) (R : List St), (stepsX T ip ops l fr H).get = some R → ∃ (S : Nat → St) (ef : Nat → Bool), S 0 = ⟨fr, H, false⟩ ∧ (∀ k, (S k).eff = false) ∧
    (∀ k o, l[k]? = some o → (stepD T ip ops o (S k)).get = some ⟨(S (k + 1)).fr, (S (k + 1)).H, ef k⟩) ∧ R.length = l.length ∧ (∀ (k : Nat) (s : St), R[k]? = some s → s = ⟨(S (k + 1)).fr, (S (k + 1)).H, ef k⟩) := by
  intro l
  induction l with
  | nil =>
    intro fr H R h
    obtain rfl := Tree.leafX_get h
    exact ⟨fun _ => ⟨fr, H, false⟩, fun _ => false, rfl, fun _ => rfl, fun k o ho => by simp at ho, rfl, fun k s hs => by simp at hs⟩
  | cons o l ih =>
    intro fr H R h
    simp only [stepsX] at h
    obtain ⟨s1, h1, h2⟩ := Tree.get_bind_some h
    obtain ⟨R', h3, h4⟩ := Tree.get_bind_some h2
    obtain rfl := Tree.leafX_get h4
    obtain ⟨S, ef, k1, k2, k3, k4, k5⟩ := ih s1.fr s1.H R' h3
    refine ⟨fun k => match k with | 0 => ⟨fr, H, false⟩ | k + 1 => S k, fun k => match k with | 0 => s1.eff | k + 1 => ef k, rfl, fun k => ?_, fun k o' ho' => ?_, by simp [k4], fun k s hs => ?_⟩
    · cases k with
      | zero => rfl
      | succ k => exact k2 k
    · cases k with
      | zero =>
        simp only [List.getElem?_cons_zero, Option.some.injEq] at ho'; subst ho'
        show _ = some (St.mk (S 0).fr (S 0).H s1.eff)
        rw [k1]; exact h1
      | succ k => exact k3 k o' (by simpa using ho')
    · cases k with
      | zero =>
        simp only [List.getElem?_cons_zero, Option.some.injEq] at hs; subst hs
        show _ = St.mk (S 0).fr (S 0).H s1.eff
        rw [k1]
      | succ k => exact k5 k s (by simpa using hs)

theorem backOk_get : ∀ {l : List Oper} {k : Nat}, backOk k l = true → ∀ (j : Nat) (o : Oper), l[j]? = some o → ∀ e ∈ o.after, Region.binds .any e = true → e.on < k + j := by
  intro l
  induction l with
  | nil => intro k _ j o h; simp at h
  | cons o l ih =>
    intro k h j o' ho' e he hb
    simp only [backOk, Bool.and_eq_true, List.all_eq_true] at h
    cases j with
    | zero =>
      simp only [List.getElem?_cons_zero, Option.some.injEq] at ho'
      subst ho'
      have := h.1 e (by simpa using he)
      rw [hb] at this
      simpa using this
    | succ j =>
      have := ih h.2 j o' (by simpa using ho') e he hb
      omega

/-- the bits tell of operations that stand ahead -/
theorem befores_sound {D : Nat → Prop} : ∀ (l : List Oper) (acc : List Nat),
    (∀ j, D j → ∀ (o : Oper), acc.length ≤ j → l[j - acc.length]? = some o → ∀ e ∈ o.after, Region.binds .any e = true → D e.on) →
    (∀ j, j < acc.length → D j → ∀ i, (acc.getD j 0).testBit i = true → D i) →
    ∀ j, D j → ∀ i, ((befores l acc).getD j 0).testBit i = true → D i := by
  intro l
  induction l with
  | nil =>
    intro acc h1 h2 j hj i hi
    simp only [befores] at hi
    by_cases hlt : j < acc.length
    · exact h2 j hlt hj i hi
    · rw [List.getD_eq_getElem?_getD, List.getElem?_eq_none (by omega)] at hi
      simp at hi
  | cons o l ih =>
    intro acc h1 h2
    simp only [befores]
    refine ih _ (fun j hj o' hl ho' => ?_) (fun j hlt hj i hi => ?_)
    · simp only [List.length_append, List.length_singleton] at hl ho'
      refine h1 j hj o' (by omega) ?_
      rw [show j - acc.length = (j - (acc.length + 1)) + 1 by omega]
      simpa using ho'
    · simp only [List.length_append, List.length_singleton] at hlt
      by_cases hlt' : j < acc.length
      · rw [List.getD_eq_getElem?_getD, List.getElem?_append_left hlt', ← List.getD_eq_getElem?_getD] at hi
        exact h2 j hlt' hj i hi
      · have e : j = acc.length := by omega
        subst e
        have hedge : ∀ e ∈ o.after, Region.binds .any e = true → D e.on := h1 acc.length hj o (Nat.le_refl _) (by simp)
        rw [List.getD_eq_getElem?_getD, List.getElem?_append_right (Nat.le_refl _), Nat.sub_self] at hi
        simp only [List.getElem?_cons_zero, Option.getD_some] at hi
        -- the fold
        have key : ∀ (es : List Edge) (s : Nat), (∀ e ∈ es, Region.binds .any e = true → D e.on) → (s.testBit i = true → D i) →
            ((es.foldl (fun s e => match Region.binds .any e with
              | true => s ||| 2 ^ e.on ||| acc.getD e.on 0
              | false => s) s).testBit i = true → D i) := by
          intro es
          induction es with
          | nil => intro s _ hs h; exact hs h
          | cons e es ihe =>
            intro s hes hs h
            simp only [List.foldl_cons] at h
            refine ihe _ (fun e' he' => hes e' (by simp [he'])) ?_ h
            intro hb
            split at hb
            · rename_i hbe
              simp only [Nat.testBit_or, Bool.or_eq_true] at hb
              rcases hb with (hb | hb) | hb
              · exact hs hb
              · have : e.on = i := by
                  rw [Nat.testBit_two_pow] at hb
                  simpa using hb
                rw [← this]; exact hes e (by simp) hbe
              · by_cases hlt : e.on < acc.length
                · exact h2 e.on hlt (hes e (by simp) hbe) i hb
                · rw [List.getD_eq_getElem?_getD, List.getElem?_eq_none (by omega)] at hb
                  simp at hb
            · exact hs hb
        exact key o.after.toList 0 (fun e he => hedge e (by simpa using he)) (by simp) hi

theorem drawOk_get {ops : List Oper} (h : drawOk ops = true) {i j : Nat} {oi oj : Oper} (hi : ops[i]? = some oi) (hj : ops[j]? = some oj) (hlt : i < j) :
    ((∀ t, oi.dst = some t → t ∉ slotsOf ops oj ∧ oj.dst ≠ some t) ∧ (∀ t, oj.dst = some t → t ∉ slotsOf ops oi)) ∨ ((befores ops []).getD j 0).testBit i = true := by
  unfold drawOk at h
  have hjl : j < ops.length := (List.getElem?_eq_some_iff.1 hj).1
  have h1 := List.all_eq_true.1 h j (by simpa using hjl)
  simp only [hj] at h1
  have h2 := List.all_eq_true.1 h1 i (by simpa using hlt)
  simp only [hi, Bool.or_eq_true, Bool.and_eq_true, Bool.not_eq_true'] at h2
  rcases h2 with ⟨h3, h4⟩ | h3
  · refine .inl ⟨fun t ht => ?_, fun t ht => ?_⟩
    · rw [ht] at h3
      simp only [meets, Option.toList_some, List.any_cons, List.any_nil, Bool.or_false] at h3
      have hn : t ∉ slotsOf ops oj ++ oj.dst.toList := fun hm => by rw [memN_iff.2 hm] at h3; simp at h3
      refine ⟨fun hm => hn (List.mem_append_left _ hm), fun hd => hn (List.mem_append_right _ (by rw [hd]; simp))⟩
    · rw [ht] at h4
      simp only [meets, Option.toList_some, List.any_cons, List.any_nil, Bool.or_false] at h4
      exact fun hm => by rw [memN_iff.2 hm] at h4; simp at h4
  · exact .inr h3

theorem lget {l : Array Bool} {i j : Nat} {d : Bool} : (l.setIfInBounds i true).getD j d = if i = j ∧ i < l.size then true else l.getD j d := by
  simp only [Array.getD_eq_getD_getElem?, Array.getElem?_setIfInBounds]
  by_cases h : i = j
  · subst h
    by_cases h2 : i < l.size
    · simp [h2]
    · simp [h2]
  · simp [h]
theorem lget_flip {l : Array Bool} {j : Nat} (h : j < l.size) (d d' : Bool) : l.getD j d = l.getD j d' := by
  simp [Array.getD_eq_getD_getElem?, h]
theorem filter_lt {α : Type} {p q : α → Bool} : ∀ {l : List α}, (∀ x ∈ l, p x = true → q x = true) → ∀ {x : α}, x ∈ l → q x = true → p x = false → (l.filter p).length < (l.filter q).length
  | [], _, x, hx, _, _ => by simp at hx
  | y :: l, h, x, hx, hq, hp => by
    have hle : ∀ l : List α, (∀ x ∈ l, p x = true → q x = true) → (l.filter p).length ≤ (l.filter q).length := by
      intro l
      induction l with
      | nil => intro _; simp
      | cons z l ih =>
        intro h
        have := ih fun x hx => h x (by simp [hx])
        by_cases hz : p z = true
        · simp [List.filter_cons, hz, h z (by simp) hz]; exact this
        · have hz' : p z = false := by simpa using hz
          by_cases hz2 : q z = true
          · simp [List.filter_cons, hz', hz2]; omega
          · have : q z = false := by simpa using hz2
            simp [List.filter_cons, hz', this]; assumption
    rcases List.mem_cons.1 hx with rfl | hx'
    · have := hle l fun x hx => h x (by simp [hx])
      simp [List.filter_cons, hp, hq]; omega
    · have := filter_lt (l := l) (fun x hx => h x (by simp [hx])) hx' hq hp
      by_cases hz : p y = true
      · simp [List.filter_cons, hz, h y (by simp) hz]; exact this
      · have hz' : p y = false := by simpa using hz
        by_cases hz2 : q y = true
        · simp [List.filter_cons, hz', hz2]; omega
        · have : q y = false := by simpa using hz2
          simp [List.filter_cons, hz', this]; assumption

theorem any_ok {ops : Array Oper} {Q : Exit → Act → World → Prop} {S : Nat → St} {ef : Nat → Bool} {hp : Nat → Heap} {N : Nat} {σ0 : Store} {φ0 : Places} {a0 : Act} (hd : drawOk ops.toList = true) (hb : backOk 0 ops.toList = true)
    (hS : ∀ k o, ops[k]? = some o → (stepD T ip ops o (S k)).get = some ⟨(S (k + 1)).fr, (S (k + 1)).H, ef k⟩) (hE : ∀ k, (S k).eff = false) (hH : ∀ k, k ≤ ops.size → (S k).H = hp (cntX ef k)) (hN : ∀ k, k ≤ ops.size → (S k).fr.length = N)
    (hm : ∀ p, p ≤ cntX ef ops.size → m ≤ (hp p).length)
    (hord : ∀ i j, i < j → j < ops.size → ef i = true → ef j = true → ((befores ops.toList []).getD j 0).testBit i = true)
    (hstab : ∀ k o p, ops[k]? = some o → ef k = false → p ≤ cntX ef ops.size → (∀ e, e < ops.size → ef e = true → ((befores ops.toList []).getD k 0).testBit e = true → cntX ef e < p) →
      (∀ e, e < ops.size → ef e = true → ((befores ops.toList []).getD e 0).testBit k = true → p ≤ cntX ef e) → ∃ s, (stepD T ip ops o ⟨(S k).fr, hp p, false⟩).get = some s ∧ s.eff = false ∧ ∀ t, o.dst = some t → s.fr.getD t .any = (S (k + 1)).fr.getD t .any)
    (hQ : ∀ a' w' σ' φ', σ0.le σ' → (∀ k, k < m → φ' k = φ0 k) → a'.defers = a0.defers → Inv κ m σ' φ' (S ops.size).fr (S ops.size).H a' w' → Q .normal a' w') :
    ∀ (fuel : Nat) (listed : Array Bool) (a : Act) (w : World) (σ : Store) (φ : Places) (p : Nat), listed.size = ops.size → ((List.range ops.size).filter fun i => !listed.getD i true).length ≤ fuel →
      (∀ j o, listed.getD j false = true → ops[j]? = some o → ∀ e ∈ o.after, Region.binds .any e = true → listed.getD e.on false = true) → a.tmps.size = N →
      (∀ t k, k ≤ ops.size → (∀ i oi, ops[i]? = some oi → oi.dst = some t → (listed.getD i false = true ↔ i < k)) → V σ φ ((S k).fr.getD t .any) (a.tmps.getD t undef)) →
      p ≤ cntX ef ops.size → (∀ e, e < ops.size → ef e = true → (listed.getD e false = true ↔ cntX ef e < p)) →
      R κ σ φ (getH (hp p)) w → (∀ k, (hp p).length ≤ k → φ k = none) → Globals Γ σ → σ0.le σ → (∀ k, k < m → φ k = φ0 k) → a.defers = a0.defers → wpAny P .any ops Q fuel listed a w := by
  have fin : ∀ (listed : Array Bool) (a : Act) (w : World) (σ : Store) (φ : Places) (p : Nat), (∀ i, i < ops.size → listed.getD i false = true) → a.tmps.size = N →
      (∀ t k, k ≤ ops.size → (∀ i oi, ops[i]? = some oi → oi.dst = some t → (listed.getD i false = true ↔ i < k)) → V σ φ ((S k).fr.getD t .any) (a.tmps.getD t undef)) →
      p ≤ cntX ef ops.size → (∀ e, e < ops.size → ef e = true → (listed.getD e false = true ↔ cntX ef e < p)) →
      R κ σ φ (getH (hp p)) w → (∀ k, (hp p).length ≤ k → φ k = none) → σ0.le σ → (∀ k, k < m → φ k = φ0 k) → a.defers = a0.defers → Q .normal a w := by
    intro listed a w σ φ p hall hsz hV hpl hpe hR hn hσ hφ hdf
    have hpe' : p = cntX ef ops.size := by
      rcases Nat.lt_or_ge p (cntX ef ops.size) with hl | hl
      · obtain ⟨e, e1, e2, e3⟩ := cntX_hit hl
        have := (hpe e e1 e2).1 (hall e e1)
        omega
      · omega
    subst hpe'
    rw [← hH _ (Nat.le_refl _)] at hR hn
    refine hQ a w σ φ hσ hφ hdf ⟨by rw [hH _ (Nat.le_refl _)]; exact hm _ (Nat.le_refl _), ⟨by rw [hN _ (Nat.le_refl _)]; exact hsz.symm, fun t => hV t ops.size (Nat.le_refl _) fun i oi hi _ => ?_⟩, hR, hn⟩
    have := (Array.getElem?_eq_some_iff.1 hi).1
    exact ⟨fun _ => this, fun _ => hall i this⟩
  intro fuel
  induction fuel with
  | zero =>
    intro listed a w σ φ p hls hcnt hcl hsz hV hpl hpe hR hn hG hσ hφ hdf
    have hnil : (List.range ops.size).filter (fun i => !listed.getD i true) = [] := List.eq_nil_of_length_eq_zero (by omega)
    have hall : ∀ i, i < ops.size → listed.getD i false = true := fun i hi => by
      have := List.filter_eq_nil_iff.1 hnil i (by simpa using hi)
      rw [lget_flip (by rw [hls]; exact hi) false true]
      simpa using this
    refine ⟨?_, fin listed a w σ φ p hall hsz hV hpl hpe hR hn hσ hφ hdf⟩
    refine List.eq_nil_iff_forall_not_mem.2 fun j hj => ?_
    obtain ⟨h0, o, ho, _⟩ := mem_ready.1 hj
    have hjl := (Array.getElem?_eq_some_iff.1 ho).1
    have := hall j hjl
    rw [lget_flip (by rw [hls]; exact hjl) false true, h0] at this
    simp at this
  | succ fuel ih =>
    intro listed a w σ φ p hls hcnt hcl hsz hV hpl hpe hR hn hG hσ hφ hdf
    refine ⟨fun hnil => ?_, fun i hi => ?_⟩
    · refine fin listed a w σ φ p (fun i => ?_) hsz hV hpl hpe hR hn hσ hφ hdf
      induction i using Nat.strongRecOn with
      | _ i ihi =>
        intro hi
        cases hl : listed.getD i false with
        | true => rfl
        | false =>
          have hi' : ops[i]? = some ops[i] := by simp [hi]
          have : i ∈ Region.ready .any ops listed := mem_ready.2 ⟨by rw [lget_flip (by rw [hls]; exact hi) true false]; exact hl, ops[i], hi', fun e hea hbe => by
            have hlt := backOk_get hb i ops[i] (by simpa using hi') e hea hbe
            exact ihi e.on (by omega) (by omega)⟩
          rw [hnil] at this
          simp at this
    · obtain ⟨h0, o, ho, hall⟩ := mem_ready.1 hi
      have hil := (Array.getElem?_eq_some_iff.1 ho).1
      have hun : listed.getD i false = false := by rw [lget_flip (by rw [hls]; exact hil) false true]; exact h0
      have hol : ops.toList[i]? = some o := by simpa using ho
      have hmem : o ∈ ops.toList := List.mem_of_getElem? hol
      -- what stands ahead is done
      have closed : ∀ j, listed.getD j false = true → ∀ i, ((befores ops.toList []).getD j 0).testBit i = true → listed.getD i false = true :=
        befores_sound (D := fun j => listed.getD j false = true) ops.toList [] (fun j hj o' _ ho' => hcl j o' hj (by simpa using ho')) (fun j hlt => by simp at hlt)
      have ahead : ∀ i', ((befores ops.toList []).getD i 0).testBit i' = true → i' ≠ i → listed.getD i' false = true := fun i' hb' hne => by
        have := befores_sound (D := fun j => listed.getD j false = true ∨ j = i) ops.toList [] (fun j hj o' _ ho' e hea hbe => by
          rcases hj with hj | rfl
          · exact .inl (hcl j o' hj (by simpa using ho') e hea hbe)
          · have e' : o' = o := by have h1 : ops[j]? = some o' := by simpa using ho'
                                   rw [ho] at h1; exact (Option.some.inj h1).symm
            subst e'
            exact .inl (hall e hea hbe)) (fun j hlt => by simp at hlt) i (.inr rfl) i' hb'
        rcases this with h | h
        · exact h
        · exact absurd h hne
      have hslots : ∀ t ∈ slotsOf ops.toList o, V σ φ ((S i).fr.getD t .any) (a.tmps.getD t undef) := fun t ht => hV t i (by omega) fun i' oi' hi' hdst => by
          have hil' := (Array.getElem?_eq_some_iff.1 hi').1
          have hol' : ops.toList[i']? = some oi' := by simpa using hi'
          rcases Nat.lt_trichotomy i' i with hlt | rfl | hlt
          · refine ⟨fun _ => hlt, fun _ => ?_⟩
            rcases drawOk_get hd hol' hol hlt with ⟨h1, _⟩ | h1
            · exact absurd ht (h1 t hdst).1
            · exact ahead i' h1 (by omega)
          · exact ⟨fun h => by rw [hun] at h; simp at h, fun h => absurd h (Nat.lt_irrefl _)⟩
          · refine ⟨fun hl => ?_, fun h => by omega⟩
            rcases drawOk_get hd hol hol' hlt with ⟨_, h1⟩ | h1
            · exact absurd ht (h1 t hdst)
            · have := closed i' hl i h1
              rw [hun] at this; simp at this
      -- the step at the heap of now: what it answers, and the heap behind it
      have key : ∃ s1 : St, (stepD T ip ops o ⟨(S i).fr, hp p, false⟩).get = some s1 ∧ (∀ t, o.dst = some t → s1.fr.getD t .any = (S (i + 1)).fr.getD t .any) ∧ ∃ p', p' ≤ cntX ef ops.size ∧ s1.H = hp p' ∧
          (∀ e, e < ops.size → ef e = true → ((listed.setIfInBounds i true).getD e false = true ↔ cntX ef e < p')) ∧ p ≤ p' := by
        have hl' : ∀ j, j ≠ i → (listed.setIfInBounds i true).getD j false = listed.getD j false := fun j hj => by rw [lget, if_neg (fun h => hj h.1.symm)]
        have hli : (listed.setIfInBounds i true).getD i false = true := by rw [lget, if_pos ⟨rfl, by rw [hls]; exact hil⟩]
        cases hef : ef i with
        | true =>
          have hpi : p = cntX ef i := by
            have h1 : ¬ cntX ef i < p := fun h => by have := (hpe i hil hef).2 h; rw [hun] at this; simp at this
            rcases Nat.lt_or_ge p (cntX ef i) with hl | hl
            · obtain ⟨e, e1, e2, e3⟩ := cntX_hit hl
              have := (hpe e (by omega) e2).1 (ahead e (hord e i e1 hil e2 hef) (by omega))
              omega
            · omega
          have hS1 := hS i o ho
          rw [show S i = ⟨(S i).fr, hp p, false⟩ from by rw [hpi, ← hH i (by omega)]; exact (by cases hx : S i with | mk f h e => have := hE i; rw [hx] at this; simp at this; subst this; rfl)] at hS1
          refine ⟨_, hS1, fun t _ => rfl, p + 1, ?_, ?_, fun e he1 he2 => ?_, by omega⟩
          · have := cntX_lt hil hef; omega
          · show (S (i + 1)).H = _
            rw [hH (i + 1) hil, cntX, hef, hpi]; rfl
          · by_cases hei : e = i
            · subst hei; exact ⟨fun _ => by omega, fun _ => hli⟩
            · rw [hl' e hei, hpe e he1 he2]
              have hne : cntX ef e ≠ p := fun h => by
                rcases Nat.lt_or_ge e i with hl | hl
                · have := cntX_lt hl he2; omega
                · have := cntX_lt (show i < e by omega) hef; omega
              omega
        | false =>
          obtain ⟨s1, k1, k2, k3⟩ := hstab i o p ho hef hpl (fun e he1 he2 hb' => (hpe e he1 he2).1 (ahead e hb' (fun h => by subst h; rw [hef] at he2; simp at he2)))
            (fun e he1 he2 hb' => by
              rcases Nat.lt_or_ge (cntX ef e) p with hl | hl
              · have := closed e ((hpe e he1 he2).2 hl) i hb'
                rw [hun] at this; simp at this
              · exact hl)
          have hkk := ((stepD_keeps (T := T) (ip := ip) hmem).get k1).2.2 k2
          refine ⟨s1, k1, k3, p, hpl, hkk.2, fun e he1 he2 => ?_, Nat.le_refl _⟩
          have hei : e ≠ i := fun h => by subst h; rw [hef] at he2; simp at he2
          rw [hl' e hei]; exact hpe e he1 he2
      obtain ⟨s1, hS1, hdst1, p', hp1, hp2, hp3, hp4⟩ := key
      have hstep := stepD_ok (Q := Q) (κ := κ) (σ := σ) (φ := φ) (w := w) (a := a) (next := wpAny P .any ops Q fuel (listed.setIfInBounds i true)) hmem hS1 (by show (S i).fr.length = _; rw [hN i (by omega)]; exact hsz.symm)
        hslots hR hn hG ?_
      · unfold wpOp
        rw [ho]
        split at hstep
        · rename_i hw; simp only [hw, if_true]; exact .inl hstep
        · rename_i hw; simp only [hw]; exact hstep
      · intro a' w' σ' φ' e1 ep e2 e3 e4 e5 hR' hn'
        have e5 : ∀ t, o.dst = some t → V σ' φ' ((S (i + 1)).fr.getD t .any) (a'.tmps.getD t undef) := fun t ht => by rw [← hdst1 t ht]; exact e5 t ht
        have hφφ : φ.le φ' := fun k L hk => by
          have : k < (hp p).length := by
            rcases Nat.lt_or_ge k (hp p).length with hl | hl
            · exact hl
            · rw [hn k hl] at hk; simp at hk
          rw [ep k this]; exact hk
        have hl' : ∀ j, j ≠ i → (listed.setIfInBounds i true).getD j false = listed.getD j false := fun j hj => by rw [lget, if_neg (fun h => hj h.1.symm)]
        have hli : (listed.setIfInBounds i true).getD i false = true := by rw [lget, if_pos ⟨rfl, by rw [hls]; exact hil⟩]
        refine ih (listed.setIfInBounds i true) a' w' σ' φ' p' (by simpa using hls) ?_ ?_ (e3.trans hsz) ?_ hp1 hp3 (by rw [← hp2]; exact hR') (by rw [← hp2]; exact hn') (hG.mono e1) (Store.le_trans hσ e1)
          (fun k hk => (ep k (Nat.lt_of_lt_of_le hk (hm p hpl))).trans (hφ k hk)) (e2.trans hdf)
        · have := filter_lt (p := fun j => !(listed.setIfInBounds i true).getD j true) (q := fun j => !listed.getD j true) (l := List.range ops.size) (fun j _ hj => by
            rw [lget] at hj
            split at hj
            · simp at hj
            · exact hj) (x := i) (by simpa using hil) (by rw [h0]; rfl) (by rw [lget, if_pos ⟨rfl, by rw [hls]; exact hil⟩]; rfl)
          omega
        · intro j o' hj ho' e hea hbe
          by_cases hji : j = i
          · subst hji
            have e' : o' = o := by rw [ho] at ho'; exact (Option.some.inj ho').symm
            subst e'
            have h1 := hall e hea hbe
            by_cases hei : e.on = j
            · rw [hei]; exact hli
            · rw [hl' _ hei]; exact h1
          · rw [hl' j hji] at hj
            have h1 := hcl j o' hj ho' e hea hbe
            by_cases hei : e.on = i
            · rw [hei]; exact hli
            · rw [hl' _ hei]; exact h1
        · intro t k hk hag
          by_cases hdst : o.dst = some t
          · have hik : i < k := (hag i o ho hdst).1 hli
            have chain : ∀ d, i + 1 + d ≤ k → V σ' φ' ((S (i + 1 + d)).fr.getD t .any) (a'.tmps.getD t undef) := by
              intro d
              induction d with
              | zero => intro _; exact e5 t hdst
              | succ d ihd =>
                intro hle
                have hlt : i + 1 + d < ops.size := by omega
                have hok : ops[i + 1 + d]? = some ops[i + 1 + d] := by simp [hlt]
                have hokl : ops.toList[i + 1 + d]? = some ops[i + 1 + d] := by simpa using hok
                have hne : (ops[i + 1 + d]).dst ≠ some t := fun hd' => by
                  have h1 := (hag (i + 1 + d) _ hok hd').2 (by omega)
                  rw [hl' _ (by omega)] at h1
                  rcases drawOk_get hd hol hokl (by omega) with ⟨h2, _⟩ | h2
                  · exact (h2 t hdst).2 hd'
                  · have := closed _ h1 i h2
                    rw [hun] at this; simp at this
                exact (stepD_same (List.mem_of_getElem? hokl) (hS _ _ hok) hne σ' φ' _).2 (ihd (by omega))
            have := chain (k - (i + 1)) (by omega)
            rwa [show i + 1 + (k - (i + 1)) = k by omega] at this
          · rw [e4 t hdst]
            refine (hV t k hk fun i' oi' hi' hdst' => ?_).mono e1 hφφ
            have hne : i' ≠ i := fun h => by
              subst h
              rw [ho] at hi'
              have := Option.some.inj hi'
              subst this
              exact hdst hdst'
            rw [← hl' i' hne]
            exact hag i' oi' hi' hdst'

theorem stepE_len {ops : Array Oper} {o : Oper} {s s' : St} (h : (stepE T ip ops o s).get = some s') : s.H.length ≤ s'.H.length := by
  have done : ∀ {fr : List AV} {e : Bool} {nb : Nat} {get : Get} {ρ : Operand → AV}, ((opE T ip nb get ρ o.op).bind fun out => .leaf (doneE ⟨fr, s.H, e⟩ o out)).get = some s' → s.H.length ≤ s'.H.length := by
    intro fr e nb get ρ he
    obtain ⟨out, _, hd⟩ := Tree.get_bind_some he
    simp only [Tree.get, Option.some.injEq] at hd
    subst hd
    show _ ≤ (setH s.H out.upd ++ out.new.map some).length
    rw [List.length_append, setH_len]; omega
  have skip : ∀ {fr : List AV}, some (St.mk fr s.H s.eff) = some s' → s.H.length ≤ s'.H.length := by
    intro fr he
    have := Option.some.inj he
    subst this
    exact Nat.le_refl _
  unfold stepE at h
  split at h
  · exact done h
  · split at h
    · split at h
      · split at h
        · split at h
          · exact done h
          · exact skip h
        · exact skip h
        · rename_i b hb
          split at h
          · cases b with
            | true => exact done h
            | false => exact skip h
          · cases b with
            | true => exact skip h
            | false => exact done h
        · simp [Tree.get] at h
      · simp [Tree.get] at h
    · simp [Tree.get] at h
theorem stepD_len {ops : Array Oper} {o : Oper} {s s' : St} (h : (stepD T ip ops o s).get = some s') : s.H.length ≤ s'.H.length := by
  obtain ⟨s1, h1, rfl⟩ := stepD_get h
  have := stepE_len h1
  exact this
theorem condT_get {α : Type} {t : Tree α} (h : condT t = true) : ∃ a, t.get = some a := by
  induction t with
  | leaf a => exact ⟨a, rfl⟩
  | chk c t ih =>
    simp only [condT, Bool.and_eq_true] at h
    obtain ⟨a, ha⟩ := ih h.2
    exact ⟨a, by rw [h.1]; exact ha⟩
  | br c t e iht ihe =>
    cases c with
    | true => exact iht h
    | false => exact ihe h
  | fail => simp [condT] at h
mutual
theorem sameAV_eq : ∀ {x y : AV}, sameAV x y = true → x = y := by
  intro x y h
  unfold sameAV at h
  split at h
  all_goals first
    | rfl
    | (rw [sameL_eq h])
    | exact absurd h Bool.false_ne_true
    | (simp at h; obtain ⟨⟨h1, h2⟩, h3⟩ := h; rw [h1, h2, h3])
    | (simp at h; obtain ⟨h1, h2⟩ := h; rw [h1, h2])
    | (simp at h; rw [h])
theorem sameL_eq : ∀ {xs ys : List AV}, sameL xs ys = true → xs = ys
  | [], [], _ => rfl
  | x :: xs, y :: ys, h => by
    simp only [sameL, Bool.and_eq_true] at h
    rw [sameAV_eq h.1, sameL_eq h.2]
  | [], _ :: _, h => by simp [sameL] at h
  | _ :: _, [], h => by simp [sameL] at h
end
theorem stableE_ok {ops : Array Oper} {o : Oper} {fr : List AV} {H : Heap} {s : St} (h : stableE T ip ops o fr H s = true) :
    ∃ s1, (stepD T ip ops o ⟨fr, H, false⟩).get = some s1 ∧ s1.eff = false ∧ ∀ t, o.dst = some t → s1.fr.getD t .any = s.fr.getD t .any := by
  obtain ⟨a, ha⟩ := condT_get h
  obtain ⟨s1, h1, h2⟩ := Tree.get_bind_some ha
  refine ⟨s1, h1, ?_⟩
  split at h2
  · simp [Tree.get] at h2
  · rename_i he
    refine ⟨he, fun t ht => ?_⟩
    rw [ht] at h2
    simp only at h2
    cases hc : sameAV (s1.fr.getD t .any) (s.fr.getD t .any) with
    | true => exact sameAV_eq hc
    | false => rw [hc] at h2; simp [Tree.get] at h2
/-- the list of states is as the states are -/
def IsX (S : Nat → St) (ef : Nat → Bool) (k : Nat) (R : List St) : Prop := ∀ (i : Nat) (s : St), R[i]? = some s → s = ⟨(S (k + i + 1)).fr, (S (k + i + 1)).H, ef (k + i)⟩
theorem IsX.head {S : Nat → St} {ef : Nat → Bool} {k : Nat} {s : St} {R : List St} (h : IsX S ef k (s :: R)) : s = ⟨(S (k + 1)).fr, (S (k + 1)).H, ef k⟩ := h 0 s rfl
theorem IsX.tail {S : Nat → St} {ef : Nat → Bool} {k : Nat} {s : St} {R : List St} (h : IsX S ef k (s :: R)) : IsX S ef (k + 1) R := fun i s' hs => by
  have := h (i + 1) s' (by simpa using hs)
  rw [this, show k + (i + 1) = k + 1 + i by omega]
theorem lastX_of {S : Nat → St} {ef : Nat → Bool} : ∀ {R : List St} {k : Nat}, IsX S ef k R → lastX (S k).fr (S k).H R = ((S (k + R.length)).fr, (S (k + R.length)).H)
  | [], k, _ => rfl
  | s :: R, k, h => by
    have := h.head
    subst this
    show lastX (S (k + 1)).fr (S (k + 1)).H R = _
    rw [lastX_of h.tail, List.length_cons, show k + 1 + R.length = k + (R.length + 1) by omega]
theorem writes_mem {S : Nat → St} {ef : Nat → Bool} : ∀ {R : List St} {k : Nat}, IsX S ef k R → ∀ e x, (e, x) ∈ writes k (cntX ef k) R ↔ (k ≤ e ∧ e < k + R.length ∧ ef e = true ∧ x = cntX ef e)
  | [], k, _, e, x => by simp only [writes, List.not_mem_nil, false_iff]; rintro ⟨h1, h2, _⟩; simp at h2; omega
  | s :: R, k, h, e, x => by
    have hs := h.head
    have hef : s.eff = ef k := by rw [hs]
    have ih := writes_mem h.tail e x
    cases he : ef k with
    | true =>
      rw [he] at hef
      have hc : cntX ef (k + 1) = cntX ef k + 1 := by rw [cntX, he]; rfl
      simp only [writes, hef, List.mem_cons, Prod.mk.injEq]
      rw [← hc, ih, List.length_cons]
      constructor
      · rintro (⟨rfl, rfl⟩ | ⟨h1, h2, h3, h4⟩)
        · exact ⟨Nat.le_refl _, by omega, he, rfl⟩
        · exact ⟨by omega, by omega, h3, h4⟩
      · rintro ⟨h1, h2, h3, h4⟩
        by_cases hk : e = k
        · subst hk; exact .inl ⟨rfl, h4⟩
        · exact .inr ⟨by omega, by omega, h3, h4⟩
    | false =>
      rw [he] at hef
      have hc : cntX ef (k + 1) = cntX ef k := by rw [cntX, he]; rfl
      simp only [writes, hef]
      rw [← hc, ih, List.length_cons]
      constructor
      · rintro ⟨h1, h2, h3, h4⟩
        exact ⟨by omega, by omega, h3, h4⟩
      · rintro ⟨h1, h2, h3, h4⟩
        have : e ≠ k := fun h => by subst h; rw [he] at h3; simp at h3
        exact ⟨by omega, by omega, h3, h4⟩
theorem ordX_of {S : Nat → St} {ef : Nat → Bool} {bef : List Nat} : ∀ {R : List St} {k : Nat}, IsX S ef k R → ordX bef (writes k (cntX ef k) R) = true → ∀ i j, k ≤ i → i < j → j < k + R.length → ef i = true → ef j = true → (bef.getD j 0).testBit i = true
  | [], k, _, _, i, j, h1, h2, h3, _, _ => by simp at h3; omega
  | s :: R, k, h, ho, i, j, h1, h2, h3, h4, h5 => by
    have hs := h.head
    have hef : s.eff = ef k := by rw [hs]
    rw [List.length_cons] at h3
    cases he : ef k with
    | true =>
      rw [he] at hef
      have hc : cntX ef (k + 1) = cntX ef k + 1 := by rw [cntX, he]; rfl
      simp only [writes, hef, ordX, Bool.and_eq_true, List.all_eq_true] at ho
      rw [← hc] at ho
      by_cases hk : i = k
      · subst hk
        exact ho.1 (j, cntX ef j) ((writes_mem h.tail j _).2 ⟨by omega, by omega, h5, rfl⟩)
      · exact ordX_of h.tail ho.2 i j (by omega) h2 (by omega) h4 h5
    | false =>
      rw [he] at hef
      have hc : cntX ef (k + 1) = cntX ef k := by rw [cntX, he]; rfl
      simp only [writes, hef] at ho
      rw [← hc] at ho
      have : i ≠ k := fun h => by subst h; rw [he] at h4; simp at h4
      exact ordX_of h.tail ho i j (by omega) h2 (by omega) h4 h5
theorem heapsX_get {S : Nat → St} {ef : Nat → Bool} (hq : ∀ k, ef k = false → (S (k + 1)).H = (S k).H) : ∀ {R : List St} {k : Nat}, IsX S ef k R → ∀ j, j ≤ R.length → (heapsX (S k).H R)[cntX ef (k + j) - cntX ef k]? = some (S (k + j)).H
  | [], k, _, j, hj => by
    obtain rfl : j = 0 := by simpa using hj
    simp [heapsX]
  | s :: R, k, h, j, hj => by
    have hs := h.head
    have hef : s.eff = ef k := by rw [hs]
    have hH : s.H = (S (k + 1)).H := by rw [hs]
    cases he : ef k with
    | true =>
      rw [he] at hef
      have hc : cntX ef (k + 1) = cntX ef k + 1 := by rw [cntX, he]; rfl
      simp only [heapsX, hef]
      cases j with
      | zero => simp
      | succ j =>
        have ih := heapsX_get hq h.tail j (by simpa using hj)
        have hmono := cntX_mono (ef := ef) (show k + 1 ≤ k + 1 + j by omega)
        rw [show k + (j + 1) = k + 1 + j by omega, show cntX ef (k + 1 + j) - cntX ef k = (cntX ef (k + 1 + j) - cntX ef (k + 1)) + 1 by omega, List.getElem?_cons_succ, hH]
        exact ih
    | false =>
      rw [he] at hef
      have hc : cntX ef (k + 1) = cntX ef k := by rw [cntX, he]; rfl
      simp only [heapsX, hef]
      rw [← hq k he]
      cases j with
      | zero =>
        have ih := heapsX_get hq h.tail 0 (Nat.zero_le _)
        simp only [Nat.add_zero, Nat.sub_self] at ih ⊢
        rw [ih, hq k he]
      | succ j =>
        have ih := heapsX_get hq h.tail j (by simpa using hj)
        rw [show k + (j + 1) = k + 1 + j by omega, ← hc]
        exact ih
theorem checksX_of {ops : Array Oper} {S : Nat → St} {ef : Nat → Bool} {bef : List Nat} {W : List (Nat × Nat)} {Hs : List Heap} : ∀ {R : List St} {l : List Oper} {k : Nat}, IsX S ef k R → R.length = l.length → checksX T ip ops bef W Hs k (cntX ef k) l (S k).fr R = true →
    ∀ j o p, l[j]? = some o → ef (k + j) = false → p < Hs.length → p ≠ cntX ef (k + j) → mayStand bef W (k + j) p = true → stableE T ip ops o (S (k + j)).fr (Hs.getD p []) ⟨(S (k + j + 1)).fr, (S (k + j + 1)).H, false⟩ = true
  | [], [], k, _, _, _, j, o, p, ho, _, _, _, _ => by simp at ho
  | [], _ :: _, k, _, hl, _, _, _, _, _, _, _, _, _ => by simp at hl
  | _ :: _, [], k, _, hl, _, _, _, _, _, _, _, _, _ => by simp at hl
  | s :: R, o' :: l, k, h, hl, hc, j, o, p, ho, he, hp, hne, hmay => by
    have hs := h.head
    have hef : s.eff = ef k := by rw [hs]
    have hfr : s.fr = (S (k + 1)).fr := by rw [hs]
    have hl' : R.length = l.length := by simpa using hl
    cases hk : ef k with
    | true =>
      rw [hk] at hef
      have hcn : cntX ef (k + 1) = cntX ef k + 1 := by rw [cntX, hk]; rfl
      simp only [checksX, hef] at hc
      rw [← hcn, hfr] at hc
      cases j with
      | zero => rw [Nat.add_zero, hk] at he; simp at he
      | succ j =>
        have := checksX_of h.tail hl' hc j o p (by simpa using ho) (by rw [show k + 1 + j = k + (j + 1) by omega]; exact he) hp (by rw [show k + 1 + j = k + (j + 1) by omega]; exact hne) (by rw [show k + 1 + j = k + (j + 1) by omega]; exact hmay)
        rwa [show k + 1 + j = k + (j + 1) by omega] at this
    | false =>
      rw [hk] at hef
      have hcn : cntX ef (k + 1) = cntX ef k := by rw [cntX, hk]; rfl
      simp only [checksX, hef, Bool.and_eq_true, List.all_eq_true] at hc
      rw [← hcn, hfr] at hc
      cases j with
      | zero =>
        simp only [List.getElem?_cons_zero, Option.some.injEq] at ho
        subst ho
        have := hc.1 p (by simpa using hp)
        rw [Nat.add_zero] at hne hmay ⊢
        have hb : Nat.beq p (cntX ef (k + 1)) = false := by
          cases hbb : Nat.beq p (cntX ef (k + 1)) with
          | false => rfl
          | true => exact absurd ((Nat.eq_of_beq_eq_true hbb).trans hcn) hne
        rw [hb, hmay] at this
        simp only [Bool.not_true, Bool.or_self] at this
        have e : s = ⟨(S (k + 1)).fr, (S (k + 1)).H, false⟩ := by rw [hs, hk]
        rw [← e]
        exact this
      | succ j =>
        have := checksX_of h.tail hl' hc.2 j o p (by simpa using ho) (by rw [show k + 1 + j = k + (j + 1) by omega]; exact he) hp (by rw [show k + 1 + j = k + (j + 1) by omega]; exact hne) (by rw [show k + 1 + j = k + (j + 1) by omega]; exact hmay)
        rwa [show k + 1 + j = k + (j + 1) by omega] at this

/-- **a region that draws its order** -/
theorem drawX_ok {ops : Array Oper} {id : Nat} {fr : List AV} {H : Heap} {s : St} {Rs : List St} {a : Act} {Q : Exit → Act → World → Prop} (hd : drawOk ops.toList = true) (hb : backOk 0 ops.toList = true) (hmix : P.follows .mixedOrders = true)
    (k1 : (stepsX T ip ops ops.toList fr H).get = some Rs) (k2 : (endX T ip ops fr H Rs).get = some s) (hI : Inv κ m σ φ fr H a w) (hG : Globals Γ σ)
    (hQ : ∀ a' w' σ' φ', σ.le σ' → (∀ k, k < m → φ' k = φ k) → a'.defers = a.defers → Inv κ m σ' φ' s.fr s.H a' w' → Q .normal a' w') : (Code.region id ops true).wp P Q a w := by
  first
  | skip
    obtain ⟨S, ef, j1, j2, j3, j4, j5⟩ := stepsX_states ops.toList _ _ _ k1
    have hsz : ops.toList.length = ops.size := by simp
    rw [hsz] at j4
    have hS : ∀ k o, ops[k]? = some o → (stepD T ip ops o (S k)).get = some ⟨(S (k + 1)).fr, (S (k + 1)).H, ef k⟩ := fun k o ho => j3 k o (by simpa using ho)
    have hX : IsX S ef 0 Rs := fun i s hs => by rw [Nat.zero_add]; exact j5 i s hs
    have hkeep : ∀ k, k < ops.size → Keeps (touched ops.toList) (S k) ⟨(S (k + 1)).fr, (S (k + 1)).H, ef k⟩ := fun k hk => by
      have hk' : ops[k]? = some ops[k] := by simp [hk]
      exact (stepD_keeps (List.mem_of_getElem? (show ops.toList[k]? = some ops[k] by simpa using hk'))).get (hS k _ hk')
    -- behind the last one nothing is told: let the rest stand
    let ef' : Nat → Bool := fun k => decide (k < ops.size) && ef k
    let S' : Nat → St := fun k => if k ≤ ops.size then S k else S ops.size
    have eS : ∀ k, k ≤ ops.size → S' k = S k := fun k hk => if_pos hk
    have eE : ∀ k, k < ops.size → ef' k = ef k := fun k hk => by show (decide (k < ops.size) && ef k) = ef k; rw [decide_eq_true hk]; rfl
    have hX' : IsX S' ef' 0 Rs := fun i s hs => by
      have hi : i < ops.size := by rw [← j4]; exact (List.getElem?_eq_some_iff.1 hs).1
      rw [Nat.zero_add, eS _ (by omega), eE _ hi]; exact j5 i s hs
    have hS' : ∀ k o, ops[k]? = some o → (stepD T ip ops o (S' k)).get = some ⟨(S' (k + 1)).fr, (S' (k + 1)).H, ef' k⟩ := fun k o ho => by
      have hk := (Array.getElem?_eq_some_iff.1 ho).1
      rw [eS k (by omega), eS (k + 1) hk, eE k hk]; exact hS k o ho
    have hE' : ∀ k, (S' k).eff = false := fun k => by
      show (if k ≤ ops.size then S k else S ops.size).eff = false
      split <;> exact j2 _
    have hq : ∀ k, ef' k = false → (S' (k + 1)).H = (S' k).H := fun k he => by
      by_cases hk : k < ops.size
      · rw [eS k (by omega), eS (k + 1) hk]
        rw [eE k hk] at he
        exact ((hkeep k hk).2.2 he).2
      · show (if k + 1 ≤ ops.size then S (k + 1) else S ops.size).H = (if k ≤ ops.size then S k else S ops.size).H
        rw [if_neg (by omega)]
        split
        · rw [show k = ops.size by omega]
        · rfl
    have h0 : S' 0 = ⟨fr, H, false⟩ := by rw [eS 0 (Nat.zero_le _)]; exact j1
    have hlast := lastX_of hX'
    rw [h0, Nat.zero_add, j4] at hlast
    have hhp : ∀ k, k ≤ ops.size → (heapsX H Rs)[cntX ef' k]? = some (S' k).H := fun k hk => by
      have := heapsX_get hq hX' k (by omega)
      rw [h0, Nat.zero_add] at this
      simpa [cntX] using this
    have hHk : ∀ k, k ≤ ops.size → (S' k).H = (heapsX H Rs).getD (cntX ef' k) [] := fun k hk => by rw [List.getD_eq_getElem?_getD, hhp k hk]; rfl
    have hNk : ∀ k, k ≤ ops.size → (S' k).fr.length = fr.length ∧ m ≤ (S' k).H.length := by
      intro k
      induction k with
      | zero => intro _; rw [h0]; exact ⟨rfl, hI.len⟩
      | succ k ih =>
        intro hk
        obtain ⟨i1, i2⟩ := ih (by omega)
        have hk1 := hkeep k (by omega)
        have hok : ops[k]? = some ops[k] := by simp [show k < ops.size from hk]
        have hln := stepD_len (hS' k _ hok)
        rw [eS k (by omega)] at i1 i2 hln
        rw [eS (k + 1) hk] at hln ⊢
        exact ⟨hk1.1.trans i1, Nat.le_trans i2 hln⟩
    have hat : ∀ p, p ≤ cntX ef' ops.size → ∃ k, k ≤ ops.size ∧ cntX ef' k = p := fun p hp => by
      rcases Nat.lt_or_ge p (cntX ef' ops.size) with hl | hl
      · obtain ⟨e, e1, _, e3⟩ := cntX_hit hl
        exact ⟨e, by omega, e3⟩
      · exact ⟨ops.size, Nat.le_refl _, by omega⟩
    have hW : ∀ e x, (e, x) ∈ writes 0 0 Rs ↔ (e < ops.size ∧ ef' e = true ∧ x = cntX ef' e) := fun e x => by
      have := writes_mem hX' e x
      rw [j4] at this
      simpa [cntX] using this
    -- what the end tells
    have hend : s.fr = (S' ops.size).fr ∧ s.H = (S' ops.size).H ∧ (∀ i j, i < j → j < ops.size → ef' i = true → ef' j = true → ((befores ops.toList []).getD j 0).testBit i = true) ∧
        (∀ k o p, ops[k]? = some o → ef' k = false → p ≤ cntX ef' ops.size → p ≠ cntX ef' k → mayStand (befores ops.toList []) (writes 0 0 Rs) k p = true →
          stableE T ip ops o (S' k).fr ((heapsX H Rs).getD p []) ⟨(S' (k + 1)).fr, (S' (k + 1)).H, false⟩ = true) := by
      unfold endX at k2
      split at k2
      · rename_i hw
        have hno : ∀ e, e < ops.size → ef' e = false := fun e he => by
          cases hef : ef' e with
          | false => rfl
          | true => have := (hW e _).2 ⟨he, hef, rfl⟩; rw [hw] at this; simp at this
        have hc0 : cntX ef' ops.size = 0 := by
          rcases Nat.eq_zero_or_pos (cntX ef' ops.size) with h | h
          · exact h
          · obtain ⟨e, e1, e2, _⟩ := cntX_hit h
            rw [hno e e1] at e2; simp at e2
        simp only [Tree.get, Option.some.injEq] at k2
        subst k2
        refine ⟨by rw [hlast], by rw [hlast], fun i j _ hj hi _ => by rw [hno i (by omega)] at hi; simp at hi, fun k o p ho _ hp hne _ => ?_⟩
        have hk := (Array.getElem?_eq_some_iff.1 ho).1
        have := cntX_mono (ef := ef') (show k ≤ ops.size by omega)
        exact absurd (by omega) hne
      · obtain ⟨hcc, hl⟩ := Tree.chkX_get k2
        have := Tree.leafX_get hl
        subst this
        simp only [Bool.and_eq_true] at hcc
        refine ⟨by rw [hlast], by rw [hlast], fun i j hij hj hi hj' => ?_, fun k o p ho he hp hne hmay => ?_⟩
        · exact ordX_of (k := 0) hX' (by simpa [cntX] using hcc.1) i j (Nat.zero_le _) hij (by rw [Nat.zero_add, j4]; exact hj) hi hj'
        · have hlen : p < (heapsX H Rs).length := by
            obtain ⟨k', hk', e⟩ := hat p hp
            have := hhp k' hk'
            rw [e] at this
            exact (List.getElem?_eq_some_iff.1 this).1
          have hl2 : Rs.length = ops.toList.length := by rw [j4, hsz]
          have := checksX_of (k := 0) (T := T) (ip := ip) (ops := ops) (bef := befores ops.toList []) (W := writes 0 0 Rs) (Hs := heapsX H Rs) hX' hl2 (by rw [h0]; simpa [cntX] using hcc.2) k o p (by simpa using ho) (by rw [Nat.zero_add]; exact he) hlen (by rw [Nat.zero_add]; exact hne) (by rw [Nat.zero_add]; exact hmay)
          rwa [Nat.zero_add] at this
    obtain ⟨hf1, hf2, hord, hst⟩ := hend
    refine wp_region_any hmix ?_
    refine any_ok (κ := κ) (m := m) (S := S') (ef := ef') (hp := fun p => (heapsX H Rs).getD p []) (N := fr.length) (σ0 := σ) (φ0 := φ) (a0 := a) hd hb hS' hE' hHk (fun k hk => (hNk k hk).1) (fun p hp => ?_) hord (fun k o p ho he hp hlo hhi => ?_) (fun a' w' σ' φ' e1 e2 e3 hI' => hQ a' w' σ' φ' e1 e2 e3 (by rw [hf1, hf2]; exact hI'))
      ops.size _ a _ σ φ 0 (by simp) ?_ ?_ hI.F.1.symm ?_ (Nat.zero_le _) ?_ ?_ ?_ hG (Store.le_refl σ) (fun _ _ => rfl) rfl
    · obtain ⟨k, hk, e⟩ := hat p hp
      show m ≤ ((heapsX H Rs).getD p []).length
      rw [← e, ← hHk k hk]
      exact (hNk k hk).2
    · have hk := (Array.getElem?_eq_some_iff.1 ho).1
      by_cases hne : p = cntX ef' k
      · refine ⟨⟨(S' (k + 1)).fr, (S' (k + 1)).H, ef' k⟩, ?_, he, fun t _ => rfl⟩
        · have := hS' k o ho
          have e2 : S' k = ⟨(S' k).fr, (heapsX H Rs).getD p [], false⟩ := by
            rw [hne, ← hHk k (by omega)]
            have h3 := hE' k
            cases hx : S' k with
            | mk f h e => rw [hx] at h3; simp only at h3; subst h3; rfl
          rw [e2] at this
          exact this
      · exact stableE_ok (hst k o p ho he hp hne (List.all_eq_true.2 fun e hem => by
          obtain ⟨w1, w2, w3⟩ := (hW e.1 e.2).1 hem
          simp only [Bool.and_eq_true, Bool.or_eq_true, Bool.not_eq_true']
          refine ⟨?_, ?_⟩
          · cases hbit : ((befores ops.toList []).getD k 0).testBit e.1 with
            | false => exact .inl rfl
            | true => refine .inr ?_; have := hlo e.1 w1 w2 hbit; rw [w3]; exact Nat.ble_eq_true_of_le this
          · cases hbit : ((befores ops.toList []).getD e.1 0).testBit k with
            | false => exact .inl rfl
            | true => refine .inr ?_; have := hhi e.1 w1 w2 hbit; rw [w3]; exact Nat.ble_eq_true_of_le this))
    · exact Nat.le_trans (List.length_filter_le _ _) (by simp)
    · intro j o hj
      rw [Array.getD_eq_getD_getElem?, Array.getElem?_replicate] at hj
      split at hj <;> simp at hj
    · intro t k hk hag
      -- nothing is done: no writer stands ahead of k
      have : ∀ d, d ≤ k → V σ φ ((S' d).fr.getD t .any) (a.tmps.getD t undef) := by
        intro d
        induction d with
        | zero => intro _; rw [h0]; exact hI.F.2 t
        | succ d ih =>
          intro hd'
          have hlt : d < ops.size := by omega
          have hok : ops[d]? = some ops[d] := by simp [hlt]
          have hne : (ops[d]).dst ≠ some t := fun hdst => by
            have := (hag d _ hok hdst).2 (by omega)
            rw [Array.getD_eq_getD_getElem?, Array.getElem?_replicate] at this
            split at this <;> simp at this
          exact (stepD_same (List.mem_of_getElem? (show ops.toList[d]? = some ops[d] by simpa using hok)) (hS' d _ hok) hne σ φ _).2 (ih (by omega))
      exact this k (Nat.le_refl _)
    · intro e he _
      rw [Array.getD_eq_getD_getElem?, Array.getElem?_replicate]
      constructor
      · intro h; split at h <;> simp at h
      · intro h; omega
    · show R κ σ φ (getH ((heapsX H Rs).getD 0 [])) _
      rw [show (0 : Nat) = cntX ef' 0 from rfl, ← hHk 0 (Nat.zero_le _), h0]
      exact hI.R.drew rfl rfl rfl rfl
    · show ∀ k, ((heapsX H Rs).getD 0 []).length ≤ k → φ k = none
      rw [show (0 : Nat) = cntX ef' 0 from rfl, ← hHk 0 (Nat.zero_le _), h0]
      exact hI.none
end
end Go.Eng
