/- An abstract evaluator of the model's code, part Td: regions that draw their order. -/
import Derived.Test.YthnbpcmajdinpaaDoorEngT
namespace Go.Eng
open Go
set_option linter.unusedSimpArgs false
set_option linter.unusedVariables false
set_option linter.unnecessarySimpa false

section
variable {P : Program} {Γ : Nat → AV} {κ : Ctx} {m : Nat} {σ : Store} {φ : Places} {w : World} {ip : Bool} {T : List (CT P Γ)}

/-- what a step leaves alone means the same behind it -/
theorem stepE_same {ops : Array Oper} {o : Oper} {s s' : St} (h : (stepE T ip ops o s).get = some s') {t : Nat} (ht : o.dst ≠ some t) (σ : Store) (φ : Places) (v : Value) :
    V σ φ (s'.fr.getD t .any) v ↔ V σ φ (s.fr.getD t .any) v := by
  have put : ∀ {fr : List AV} {x : AV}, (putF fr o.dst x).getD t .any = fr.getD t .any := fun {fr x} => putF_keep fun t' h' e => ht (by rw [h', e])
  have done : ∀ {fr : List AV} {H : Heap} {e : Bool} {nb : Nat} {get : Get} {ρ : Operand → AV}, ((opE T ip nb get ρ o.op).bind fun out => .leaf (doneE ⟨fr, H, e⟩ o out)).get = some s' → s'.fr.getD t .any = fr.getD t .any := by
    intro fr H e nb get ρ he
    obtain ⟨out, _, hd⟩ := Tree.get_bind_some he
    simp only [Tree.get, Option.some.injEq] at hd
    subst hd
    exact put
  have refi : ∀ {t' : Nat} {b : Bool}, s.fr.getD t' .any = .sb b → ∀ c, b = c → (V σ φ ((s.fr.set t' (.v (.bool c))).getD t .any) v ↔ V σ φ (s.fr.getD t .any) v) := by
    intro t' b hb c e
    subst e
    rw [getD_set]
    split
    · rename_i hh
      obtain ⟨rfl, _⟩ := hh
      rw [hb]
      exact ⟨fun hv => by rw [hv.v_eq]; exact V_sb _, fun hv => by rw [hv.sb_eq]; exact V_v _⟩
    · rfl
  unfold stepE at h
  split at h
  · rw [done h]
  · split at h
    · split at h
      · rename_i t' ht'
        split at h
        · split at h
          · rw [done h]
          · simp only [Tree.get, Option.some.injEq] at h
            subst h
            rw [put]
        · rename_i b hb
          split at h
          · cases b with
            | true => simp only [Tree.get] at h; rw [done h]; exact refi hb true rfl
            | false =>
              simp only [Tree.get, Option.some.injEq] at h
              subst h
              rw [put]; exact refi hb false rfl
          · cases b with
            | true =>
              simp only [Tree.get, Option.some.injEq] at h
              subst h
              rw [put]; exact refi hb true rfl
            | false => simp only [Tree.get] at h; rw [done h]; exact refi hb false rfl
        · simp [Tree.get] at h
      · simp [Tree.get] at h
    · simp [Tree.get] at h

theorem stepD_get {ops : Array Oper} {o : Oper} {s s' : St} (h : (stepD T ip ops o s).get = some s') : ∃ s1, (stepE T ip ops o ⟨maskF (slotsOf ops.toList o) 0 s.fr, s.H, s.eff⟩).get = some s1 ∧ s' = ⟨unmaskF (slotsOf ops.toList o ++ o.dst.toList) 0 s.fr s1.fr, s1.H, s1.eff⟩ := by
  obtain ⟨s1, h1, h2⟩ := Tree.get_bind_some h
  simp only [Tree.get, Option.some.injEq] at h2
  exact ⟨s1, h1, h2.symm⟩

theorem stepD_same {ops : Array Oper} {o : Oper} (ho : o ∈ ops.toList) {s s' : St} (h : (stepD T ip ops o s).get = some s') {t : Nat} (ht : o.dst ≠ some t) (σ : Store) (φ : Places) (v : Value) :
    V σ φ (s'.fr.getD t .any) v ↔ V σ φ (s.fr.getD t .any) v := by
  obtain ⟨s1, h1, rfl⟩ := stepD_get h
  have hl : s1.fr.length = s.fr.length := ((step_keeps ho).get h1).1.trans maskF_len
  show V σ φ ((unmaskF _ 0 s.fr s1.fr).getD t .any) v ↔ _
  rw [unmaskF_get hl, Nat.zero_add]
  split
  · rename_i hm
    rw [stepE_same h1 ht σ φ v, maskF_get, Nat.zero_add]
    have : t ∈ slotsOf ops.toList o := by
      rcases List.mem_append.1 (memN_iff.1 hm) with h | h
      · exact h
      · cases hd : o.dst with
        | none => rw [hd] at h; simp at h
        | some t' => rw [hd] at h; simp at h; exact absurd (by rw [hd, h]) ht
    rw [memN_iff.2 this]
  · rfl

/-- a step in whatever world: what it looks at is as it ought to be -/
theorem stepD_ok {ops : Array Oper} {o : Oper} (ho : o ∈ ops.toList) {s s' : St} {a : Act} {Q : Exit → Act → World → Prop} {next : Act → World → Prop} (h : (stepD T ip ops o s).get = some s') (he : s'.eff = false)
    (hlen : s.fr.length = a.tmps.size) (hm : m ≤ s.H.length) (hF : ∀ t ∈ slotsOf ops.toList o, V σ φ (s.fr.getD t .any) (a.tmps.getD t undef)) (hR : R κ σ φ (getH s.H) w) (hn : ∀ k, s.H.length ≤ k → φ k = none) (hG : Globals Γ σ)
    (hK : ∀ a' w' σ', σ.le σ' → a'.defers = a.defers → a'.tmps.size = a.tmps.size → (∀ t, o.dst ≠ some t → a'.tmps.getD t undef = a.tmps.getD t undef) → (∀ t, o.dst = some t → V σ' φ (s'.fr.getD t .any) (a'.tmps.getD t undef)) → R κ σ' φ (getH s.H) w' → next a' w') :
    if Region.wanted o (yielded ops a.tmps) then o.wp P a w next Q else next (a.put o.dst undef) w := by
  obtain ⟨s1, h1, rfl⟩ := stepD_get h
  have hk := (step_keeps (T := T) (ip := ip) ho).get h1
  have hl : s1.fr.length = s.fr.length := hk.1.trans maskF_len
  have hH : s1.H = s.H := (hk.2.2 he).2
  refine step_ok (κ := κ) (m := s.H.length) h1 ⟨Nat.le_refl _, ⟨by rw [maskF_len]; exact hlen, fun t => ?_⟩, hR, hn⟩ hG fun a' w' σ' φ' e1 e2 e3 e4 hI => ?_
  · rw [maskF_get, Nat.zero_add]
    split
    · rename_i hm'; exact hF t (memN_iff.1 hm')
    · exact V_any _
  · have hφ : φ' = φ := by
      funext k
      by_cases hk' : k < s.H.length
      · exact e2 k hk'
      · rw [hn k (by omega), hI.none k (by rw [hH]; omega)]
    subst hφ
    refine hK a' w' σ' e1 e3 (by rw [← hI.F.1, hl]; exact hlen) e4 (fun t ht => ?_) (by rw [← hH]; exact hI.R)
    show V σ' φ' ((unmaskF _ 0 s.fr s1.fr).getD t .any) _
    rw [unmaskF_get hl, Nat.zero_add]
    have : memN t (slotsOf ops.toList o ++ o.dst.toList) = true := memN_iff.2 (List.mem_append_right _ (by rw [ht]; simp))
    rw [this]
    exact hI.F.2 t

/-! ### the order -/
/-- the states between the operations, in the text's order -/
theorem stepsD_states {ops : Array Oper} : ∀ (l : List Oper) (s s' : St), (stepsD T ip ops l s).get = some s' → ∃ S : Nat → St, S 0 = s ∧ S l.length = s' ∧ ∀ k o, l[k]? = some o → (stepD T ip ops o (S k)).get = some (S (k + 1)) := by
  intro l
  induction l with
  | nil =>
    intro s s' h
    simp only [stepsD, Tree.get, Option.some.injEq] at h
    exact ⟨fun _ => s, rfl, h, fun k o ho => by simp at ho⟩
  | cons o l ih =>
    intro s s' h
    simp only [stepsD] at h
    obtain ⟨s1, h1, h2⟩ := Tree.get_bind_some h
    obtain ⟨S, k1, k2, k3⟩ := ih s1 s' h2
    refine ⟨fun k => match k with | 0 => s | k + 1 => S k, rfl, k2, fun k o' ho' => ?_⟩
    cases k with
    | zero => simp only [List.getElem?_cons_zero, Option.some.injEq] at ho'; subst ho'; rw [← k1] at h1; exact h1
    | succ k => exact k3 k o' (by simpa using ho')

theorem backOk_get : ∀ {l : List Oper} {k : Nat}, backOk k l = true → ∀ (j : Nat) (o : Oper), l[j]? = some o → ∀ e ∈ o.after, Region.binds .any e = true → e.on < k + j := by
  intro l
  induction l with
  | nil => intro k _ j o h; simp at h
  | cons o l ih =>
    intro k h j o' ho' e he hb
    simp only [backOk, Bool.and_eq_true, List.all_eq_true] at h
    cases j with
    | zero =>
      simp only [List.getElem?_cons_zero, Option.some.injEq] at ho'
      subst ho'
      have := h.1 e (by simpa using he)
      rw [hb] at this
      simpa using this
    | succ j =>
      have := ih h.2 j o' (by simpa using ho') e he hb
      omega

/-- the bits tell of operations that stand ahead -/
theorem befores_sound {D : Nat → Prop} : ∀ (l : List Oper) (acc : List Nat),
    (∀ j, D j → ∀ (o : Oper), acc.length ≤ j → l[j - acc.length]? = some o → ∀ e ∈ o.after, Region.binds .any e = true → D e.on) →
    (∀ j, j < acc.length → D j → ∀ i, (acc.getD j 0).testBit i = true → D i) →
    ∀ j, D j → ∀ i, ((befores l acc).getD j 0).testBit i = true → D i := by
  intro l
  induction l with
  | nil =>
    intro acc h1 h2 j hj i hi
    simp only [befores] at hi
    by_cases hlt : j < acc.length
    · exact h2 j hlt hj i hi
    · rw [List.getD_eq_getElem?_getD, List.getElem?_eq_none (by omega)] at hi
      simp at hi
  | cons o l ih =>
    intro acc h1 h2
    simp only [befores]
    refine ih _ (fun j hj o' hl ho' => ?_) (fun j hlt hj i hi => ?_)
    · simp only [List.length_append, List.length_singleton] at hl ho'
      refine h1 j hj o' (by omega) ?_
      rw [show j - acc.length = (j - (acc.length + 1)) + 1 by omega]
      simpa using ho'
    · simp only [List.length_append, List.length_singleton] at hlt
      by_cases hlt' : j < acc.length
      · rw [List.getD_eq_getElem?_getD, List.getElem?_append_left hlt', ← List.getD_eq_getElem?_getD] at hi
        exact h2 j hlt' hj i hi
      · have e : j = acc.length := by omega
        subst e
        have hedge : ∀ e ∈ o.after, Region.binds .any e = true → D e.on := h1 acc.length hj o (Nat.le_refl _) (by simp)
        rw [List.getD_eq_getElem?_getD, List.getElem?_append_right (Nat.le_refl _), Nat.sub_self] at hi
        simp only [List.getElem?_cons_zero, Option.getD_some] at hi
        -- the fold
        have key : ∀ (es : List Edge) (s : Nat), (∀ e ∈ es, Region.binds .any e = true → D e.on) → (s.testBit i = true → D i) →
            ((es.foldl (fun s e => match Region.binds .any e with
              | true => s ||| 2 ^ e.on ||| acc.getD e.on 0
              | false => s) s).testBit i = true → D i) := by
          intro es
          induction es with
          | nil => intro s _ hs h; exact hs h
          | cons e es ihe =>
            intro s hes hs h
            simp only [List.foldl_cons] at h
            refine ihe _ (fun e' he' => hes e' (by simp [he'])) ?_ h
            intro hb
            split at hb
            · rename_i hbe
              simp only [Nat.testBit_or, Bool.or_eq_true] at hb
              rcases hb with (hb | hb) | hb
              · exact hs hb
              · have : e.on = i := by
                  rw [Nat.testBit_two_pow] at hb
                  simpa using hb
                rw [← this]; exact hes e (by simp) hbe
              · by_cases hlt : e.on < acc.length
                · exact h2 e.on hlt (hes e (by simp) hbe) i hb
                · rw [List.getD_eq_getElem?_getD, List.getElem?_eq_none (by omega)] at hb
                  simp at hb
            · exact hs hb
        exact key o.after.toList 0 (fun e he => hedge e (by simpa using he)) (by simp) hi

theorem drawOk_get {ops : List Oper} (h : drawOk ops = true) {i j : Nat} {oi oj : Oper} (hi : ops[i]? = some oi) (hj : ops[j]? = some oj) (hlt : i < j) :
    ((∀ t, oi.dst = some t → t ∉ slotsOf ops oj ∧ oj.dst ≠ some t) ∧ (∀ t, oj.dst = some t → t ∉ slotsOf ops oi)) ∨ ((befores ops []).getD j 0).testBit i = true := by
  unfold drawOk at h
  have hjl : j < ops.length := (List.getElem?_eq_some_iff.1 hj).1
  have h1 := List.all_eq_true.1 h j (by simpa using hjl)
  simp only [hj] at h1
  have h2 := List.all_eq_true.1 h1 i (by simpa using hlt)
  simp only [hi, Bool.or_eq_true, Bool.and_eq_true, Bool.not_eq_true'] at h2
  rcases h2 with ⟨h3, h4⟩ | h3
  · refine .inl ⟨fun t ht => ?_, fun t ht => ?_⟩
    · rw [ht] at h3
      simp only [meets, Option.toList_some, List.any_cons, List.any_nil, Bool.or_false] at h3
      have hn : t ∉ slotsOf ops oj ++ oj.dst.toList := fun hm => by rw [memN_iff.2 hm] at h3; simp at h3
      refine ⟨fun hm => hn (List.mem_append_left _ hm), fun hd => hn (List.mem_append_right _ (by rw [hd]; simp))⟩
    · rw [ht] at h4
      simp only [meets, Option.toList_some, List.any_cons, List.any_nil, Bool.or_false] at h4
      exact fun hm => by rw [memN_iff.2 hm] at h4; simp at h4
  · exact .inr h3

theorem lget {l : Array Bool} {i j : Nat} {d : Bool} : (l.setIfInBounds i true).getD j d = if i = j ∧ i < l.size then true else l.getD j d := by
  simp only [Array.getD_eq_getD_getElem?, Array.getElem?_setIfInBounds]
  by_cases h : i = j
  · subst h
    by_cases h2 : i < l.size
    · simp [h2]
    · simp [h2]
  · simp [h]
theorem lget_flip {l : Array Bool} {j : Nat} (h : j < l.size) (d d' : Bool) : l.getD j d = l.getD j d' := by
  simp [Array.getD_eq_getD_getElem?, h]
theorem filter_lt {α : Type} {p q : α → Bool} : ∀ {l : List α}, (∀ x ∈ l, p x = true → q x = true) → ∀ {x : α}, x ∈ l → q x = true → p x = false → (l.filter p).length < (l.filter q).length
  | [], _, x, hx, _, _ => by simp at hx
  | y :: l, h, x, hx, hq, hp => by
    have hle : ∀ l : List α, (∀ x ∈ l, p x = true → q x = true) → (l.filter p).length ≤ (l.filter q).length := by
      intro l
      induction l with
      | nil => intro _; simp
      | cons z l ih =>
        intro h
        have := ih fun x hx => h x (by simp [hx])
        by_cases hz : p z = true
        · simp [List.filter_cons, hz, h z (by simp) hz]; exact this
        · have hz' : p z = false := by simpa using hz
          by_cases hz2 : q z = true
          · simp [List.filter_cons, hz', hz2]; omega
          · have : q z = false := by simpa using hz2
            simp [List.filter_cons, hz', this]; assumption
    rcases List.mem_cons.1 hx with rfl | hx'
    · have := hle l fun x hx => h x (by simp [hx])
      simp [List.filter_cons, hp, hq]; omega
    · have := filter_lt (l := l) (fun x hx => h x (by simp [hx])) hx' hq hp
      by_cases hz : p y = true
      · simp [List.filter_cons, hz, h y (by simp) hz]; exact this
      · have hz' : p y = false := by simpa using hz
        by_cases hz2 : q y = true
        · simp [List.filter_cons, hz', hz2]; omega
        · have : q y = false := by simpa using hz2
          simp [List.filter_cons, hz', this]; assumption

theorem any_ok {ops : Array Oper} {Q : Exit → Act → World → Prop} {S : Nat → St} {H : Heap} {N : Nat} {σ0 : Store} {a0 : Act} (hd : drawOk ops.toList = true) (hb : backOk 0 ops.toList = true)
    (hS : ∀ k o, ops[k]? = some o → (stepD T ip ops o (S k)).get = some (S (k + 1))) (he : ∀ k, k ≤ ops.size → (S k).eff = false) (hH : ∀ k, k ≤ ops.size → (S k).H = H) (hN : ∀ k, k ≤ ops.size → (S k).fr.length = N)
    (hm : m ≤ H.length) (hn : ∀ k, H.length ≤ k → φ k = none)
    (hQ : ∀ a' w' σ', σ0.le σ' → a'.defers = a0.defers → Inv κ m σ' φ (S ops.size).fr H a' w' → Q .normal a' w') :
    ∀ (fuel : Nat) (listed : Array Bool) (a : Act) (w : World) (σ : Store), listed.size = ops.size → ((List.range ops.size).filter fun i => !listed.getD i true).length ≤ fuel →
      (∀ j o, listed.getD j false = true → ops[j]? = some o → ∀ e ∈ o.after, Region.binds .any e = true → listed.getD e.on false = true) → a.tmps.size = N →
      (∀ t k, k ≤ ops.size → (∀ i oi, ops[i]? = some oi → oi.dst = some t → (listed.getD i false = true ↔ i < k)) → V σ φ ((S k).fr.getD t .any) (a.tmps.getD t undef)) →
      R κ σ φ (getH H) w → Globals Γ σ → σ0.le σ → a.defers = a0.defers → wpAny P .any ops Q fuel listed a w := by
  have fin : ∀ (listed : Array Bool) (a : Act) (w : World) (σ : Store), (∀ i, i < ops.size → listed.getD i false = true) → a.tmps.size = N →
      (∀ t k, k ≤ ops.size → (∀ i oi, ops[i]? = some oi → oi.dst = some t → (listed.getD i false = true ↔ i < k)) → V σ φ ((S k).fr.getD t .any) (a.tmps.getD t undef)) →
      R κ σ φ (getH H) w → σ0.le σ → a.defers = a0.defers → Q .normal a w := by
    intro listed a w σ hall hsz hV hR hσ hdf
    refine hQ a w σ hσ hdf ⟨hm, ⟨by rw [hN _ (Nat.le_refl _)]; exact hsz.symm, fun t => hV t ops.size (Nat.le_refl _) fun i oi hi _ => ?_⟩, hR, hn⟩
    have := (Array.getElem?_eq_some_iff.1 hi).1
    exact ⟨fun _ => this, fun _ => hall i this⟩
  intro fuel
  induction fuel with
  | zero =>
    intro listed a w σ hls hcnt hcl hsz hV hR hG hσ hdf
    have hnil : (List.range ops.size).filter (fun i => !listed.getD i true) = [] := List.eq_nil_of_length_eq_zero (by omega)
    have hall : ∀ i, i < ops.size → listed.getD i false = true := fun i hi => by
      have := List.filter_eq_nil_iff.1 hnil i (by simpa using hi)
      rw [lget_flip (by rw [hls]; exact hi) false true]
      simpa using this
    refine ⟨?_, fin listed a w σ hall hsz hV hR hσ hdf⟩
    refine List.eq_nil_iff_forall_not_mem.2 fun j hj => ?_
    obtain ⟨h0, o, ho, _⟩ := mem_ready.1 hj
    have hjl := (Array.getElem?_eq_some_iff.1 ho).1
    have := hall j hjl
    rw [lget_flip (by rw [hls]; exact hjl) false true, h0] at this
    simp at this
  | succ fuel ih =>
    intro listed a w σ hls hcnt hcl hsz hV hR hG hσ hdf
    refine ⟨fun hnil => ?_, fun i hi => ?_⟩
    · refine fin listed a w σ (fun i => ?_) hsz hV hR hσ hdf
      induction i using Nat.strongRecOn with
      | _ i ihi =>
        intro hi
        cases hl : listed.getD i false with
        | true => rfl
        | false =>
          have hi' : ops[i]? = some ops[i] := by simp [hi]
          have : i ∈ Region.ready .any ops listed := mem_ready.2 ⟨by rw [lget_flip (by rw [hls]; exact hi) true false]; exact hl, ops[i], hi', fun e hea hbe => by
            have hlt := backOk_get hb i ops[i] (by simpa using hi') e hea hbe
            exact ihi e.on (by omega) (by omega)⟩
          rw [hnil] at this
          simp at this
    · obtain ⟨h0, o, ho, hall⟩ := mem_ready.1 hi
      have hil := (Array.getElem?_eq_some_iff.1 ho).1
      have hun : listed.getD i false = false := by rw [lget_flip (by rw [hls]; exact hil) false true]; exact h0
      have hol : ops.toList[i]? = some o := by simpa using ho
      have hmem : o ∈ ops.toList := List.mem_of_getElem? hol
      -- what stands ahead is done
      have closed : ∀ j, listed.getD j false = true → ∀ i, ((befores ops.toList []).getD j 0).testBit i = true → listed.getD i false = true :=
        befores_sound (D := fun j => listed.getD j false = true) ops.toList [] (fun j hj o' _ ho' => hcl j o' hj (by simpa using ho')) (fun j hlt => by simp at hlt)
      have ahead : ∀ i', ((befores ops.toList []).getD i 0).testBit i' = true → i' ≠ i → listed.getD i' false = true := fun i' hb' hne => by
        have := befores_sound (D := fun j => listed.getD j false = true ∨ j = i) ops.toList [] (fun j hj o' _ ho' e hea hbe => by
          rcases hj with hj | rfl
          · exact .inl (hcl j o' hj (by simpa using ho') e hea hbe)
          · have e' : o' = o := by have h1 : ops[j]? = some o' := by simpa using ho'
                                   rw [ho] at h1; exact (Option.some.inj h1).symm
            subst e'
            exact .inl (hall e hea hbe)) (fun j hlt => by simp at hlt) i (.inr rfl) i' hb'
        rcases this with h | h
        · exact h
        · exact absurd h hne
      have hS1 := hS i o ho
      have hstep := stepD_ok (Q := Q) (κ := κ) (m := m) (σ := σ) (φ := φ) (w := w) (a := a) (next := wpAny P .any ops Q fuel (listed.setIfInBounds i true)) hmem hS1 (he (i + 1) hil) (by rw [hN i (by omega)]; exact hsz.symm) (by rw [hH i (by omega)]; exact hm)
        (fun t ht => hV t i (by omega) fun i' oi' hi' hdst => by
          have hil' := (Array.getElem?_eq_some_iff.1 hi').1
          have hol' : ops.toList[i']? = some oi' := by simpa using hi'
          rcases Nat.lt_trichotomy i' i with hlt | rfl | hlt
          · refine ⟨fun _ => hlt, fun _ => ?_⟩
            rcases drawOk_get hd hol' hol hlt with ⟨h1, _⟩ | h1
            · exact absurd ht (h1 t hdst).1
            · exact ahead i' h1 (by omega)
          · exact ⟨fun h => by rw [hun] at h; simp at h, fun h => absurd h (Nat.lt_irrefl _)⟩
          · refine ⟨fun hl => ?_, fun h => by omega⟩
            rcases drawOk_get hd hol hol' hlt with ⟨_, h1⟩ | h1
            · exact absurd ht (h1 t hdst)
            · have := closed i' hl i h1
              rw [hun] at this; simp at this)
        (by rw [hH i (by omega)]; exact hR) (by rw [hH i (by omega)]; exact hn) hG ?_
      · unfold wpOp
        rw [ho]
        split at hstep
        · rename_i hw; simp only [hw, if_true]; exact .inl hstep
        · rename_i hw; simp only [hw]; exact hstep
      · intro a' w' σ' e1 e2 e3 e4 e5 hR'
        have hl' : ∀ j, j ≠ i → (listed.setIfInBounds i true).getD j false = listed.getD j false := fun j hj => by rw [lget, if_neg (fun h => hj h.1.symm)]
        have hli : (listed.setIfInBounds i true).getD i false = true := by rw [lget, if_pos ⟨rfl, by rw [hls]; exact hil⟩]
        refine ih (listed.setIfInBounds i true) a' w' σ' (by simpa using hls) ?_ ?_ (e3.trans hsz) ?_ (by rw [← hH i (by omega)]; exact hR') (hG.mono e1) (Store.le_trans hσ e1) (e2.trans hdf)
        · have := filter_lt (p := fun j => !(listed.setIfInBounds i true).getD j true) (q := fun j => !listed.getD j true) (l := List.range ops.size) (fun j _ hj => by
            rw [lget] at hj
            split at hj
            · simp at hj
            · exact hj) (x := i) (by simpa using hil) (by rw [h0]; rfl) (by rw [lget, if_pos ⟨rfl, by rw [hls]; exact hil⟩]; rfl)
          omega
        · intro j o' hj ho' e hea hbe
          by_cases hji : j = i
          · subst hji
            have e' : o' = o := by rw [ho] at ho'; exact (Option.some.inj ho').symm
            subst e'
            have h1 := hall e hea hbe
            by_cases hei : e.on = j
            · rw [hei]; exact hli
            · rw [hl' _ hei]; exact h1
          · rw [hl' j hji] at hj
            have h1 := hcl j o' hj ho' e hea hbe
            by_cases hei : e.on = i
            · rw [hei]; exact hli
            · rw [hl' _ hei]; exact h1
        · intro t k hk hag
          by_cases hdst : o.dst = some t
          · have hik : i < k := (hag i o ho hdst).1 hli
            have chain : ∀ d, i + 1 + d ≤ k → V σ' φ ((S (i + 1 + d)).fr.getD t .any) (a'.tmps.getD t undef) := by
              intro d
              induction d with
              | zero => intro _; exact e5 t hdst
              | succ d ihd =>
                intro hle
                have hlt : i + 1 + d < ops.size := by omega
                have hok : ops[i + 1 + d]? = some ops[i + 1 + d] := by simp [hlt]
                have hokl : ops.toList[i + 1 + d]? = some ops[i + 1 + d] := by simpa using hok
                have hne : (ops[i + 1 + d]).dst ≠ some t := fun hd' => by
                  have h1 := (hag (i + 1 + d) _ hok hd').2 (by omega)
                  rw [hl' _ (by omega)] at h1
                  rcases drawOk_get hd hol hokl (by omega) with ⟨h2, _⟩ | h2
                  · exact (h2 t hdst).2 hd'
                  · have := closed _ h1 i h2
                    rw [hun] at this; simp at this
                exact (stepD_same (List.mem_of_getElem? hokl) (hS _ _ hok) hne σ' φ _).2 (ihd (by omega))
            have := chain (k - (i + 1)) (by omega)
            rwa [show i + 1 + (k - (i + 1)) = k by omega] at this
          · rw [e4 t hdst]
            refine (hV t k hk fun i' oi' hi' hdst' => ?_).mono e1 (Places.le_refl φ)
            have hne : i' ≠ i := fun h => by
              subst h
              rw [ho] at hi'
              have := Option.some.inj hi'
              subst this
              exact hdst hdst'
            rw [← hl' i' hne]
            exact hag i' oi' hi' hdst'

/-- **a region that draws its order** -/
theorem draw_ok {ops : Array Oper} {id : Nat} {fr : List AV} {H : Heap} {s' : St} {a : Act} {Q : Exit → Act → World → Prop} (h : (drawE T ip ops fr H).get = some s') (hI : Inv κ m σ φ fr H a w) (hG : Globals Γ σ)
    (hQ : ∀ a' w' σ' φ', σ.le σ' → (∀ k, k < m → φ' k = φ k) → a'.defers = a.defers → Inv κ m σ' φ' s'.fr s'.H a' w' → Q .normal a' w') : (Code.region id ops true).wp P Q a w := by
  unfold drawE at h
  split at h
  · rename_i hc
    simp only [Bool.and_eq_true] at hc
    obtain ⟨⟨hd, hb⟩, hmix⟩ := hc
    have ha : ((stepsD T ip ops ops.toList ⟨fr, H, false⟩).bind fun s => match s.eff with
        | true => Tree.fail
        | false => Tree.leaf s).All (Keeps (touched ops.toList) ⟨fr, H, false⟩) := Tree.All.bind (Q := Keeps (touched ops.toList) ⟨fr, H, false⟩) (fun s hs => by
      split
      · trivial
      · exact hs) (stepsD_keeps (T := T) (ip := ip) (ops := ops) ops.toList ⟨fr, H, false⟩ (fun o ho => ho))
    obtain ⟨s, h1, h2⟩ := merge_ok (s0 := ⟨fr, H, false⟩) ha h
    obtain ⟨s1, k1, k2⟩ := Tree.get_bind_some h1
    split at k2
    · simp [Tree.get] at k2
    · rename_i heff
      simp only [Tree.get, Option.some.injEq] at k2
      subst k2
      obtain ⟨S, j1, j2, j3⟩ := stepsD_states ops.toList _ _ k1
      have hsz : ops.toList.length = ops.size := by simp
      rw [hsz] at j2
      have hS : ∀ k o, ops[k]? = some o → (stepD T ip ops o (S k)).get = some (S (k + 1)) := fun k o ho => j3 k o (by simpa using ho)
      have hkeep : ∀ k, k < ops.size → Keeps (touched ops.toList) (S k) (S (k + 1)) := fun k hk => by
        have hk' : ops[k]? = some ops[k] := by simp [hk]
        exact (stepD_keeps (List.mem_of_getElem? (show ops.toList[k]? = some ops[k] by simpa using hk'))).get (hS k _ hk')
      have he : ∀ d, d ≤ ops.size → (S (ops.size - d)).eff = false := by
        intro d
        induction d with
        | zero => intro _; rw [Nat.sub_zero, j2]; exact heff
        | succ d ih =>
          intro hd'
          have h3 := ih (by omega)
          have := (hkeep (ops.size - (d + 1)) (by omega)).2.2
          rw [show ops.size - (d + 1) + 1 = ops.size - d by omega] at this
          exact (this h3).1
      have he' : ∀ k, k ≤ ops.size → (S k).eff = false := fun k hk => by
        have := he (ops.size - k) (by omega)
        rwa [show ops.size - (ops.size - k) = k by omega] at this
      have hHN : ∀ k, k ≤ ops.size → (S k).H = H ∧ (S k).fr.length = fr.length := by
        intro k
        induction k with
        | zero => intro _; rw [j1]; exact ⟨rfl, rfl⟩
        | succ k ih =>
          intro hk
          obtain ⟨i1, i2⟩ := ih (by omega)
          have := hkeep k (by omega)
          exact ⟨(this.2.2 (he' _ hk)).2.trans i1, this.1.trans i2⟩
      refine wp_region_any hmix ?_
      refine any_ok (κ := κ) (m := m) (φ := φ) (S := S) (H := H) (N := fr.length) (σ0 := σ) (a0 := a) hd hb hS he' (fun k hk => (hHN k hk).1) (fun k hk => (hHN k hk).2) hI.len hI.none ?_ ops.size _ a _ σ (by simp) ?_ ?_ hI.F.1.symm ?_ ?_ hG (Store.le_refl σ) rfl
      · intro a' w' σ' e1 e2 hI'
        refine hQ a' w' σ' φ e1 (fun _ _ => rfl) e2 (h2 _ _ _ _ _ _ ?_)
        rw [← j2, (hHN _ (Nat.le_refl _)).1]
        exact hI'
      · exact Nat.le_trans (List.length_filter_le _ _) (by simp)
      · intro j o hj
        rw [Array.getD_eq_getD_getElem?, Array.getElem?_replicate] at hj
        split at hj <;> simp at hj
      · intro t k hk hag
        -- nothing is done: no writer stands ahead of k
        have : ∀ d, d ≤ k → V σ φ ((S d).fr.getD t .any) (a.tmps.getD t undef) := by
          intro d
          induction d with
          | zero => intro _; rw [j1]; exact hI.F.2 t
          | succ d ih =>
            intro hd'
            have hlt : d < ops.size := by omega
            have hok : ops[d]? = some ops[d] := by simp [hlt]
            have hne : (ops[d]).dst ≠ some t := fun hdst => by
              have := (hag d _ hok hdst).2 (by omega)
              rw [Array.getD_eq_getD_getElem?, Array.getElem?_replicate] at this
              split at this <;> simp at this
            exact (stepD_same (List.mem_of_getElem? (show ops.toList[d]? = some ops[d] by simpa using hok)) (hS d _ hok) hne σ φ _).2 (ih (by omega))
        exact this k (Nat.le_refl _)
      · exact hI.R.drew rfl rfl rfl rfl
  · simp [Tree.get] at h
end
end Go.Eng
