/- An abstract evaluator of the model's code, part N2: maps. -/
import Derived.Test.YtnpfcaecaflfbaaDoorEngN
namespace Go.Eng
open Go
set_option linter.unusedSimpArgs false
set_option linter.unusedVariables false

/-! ### keys -/
theorem eqK_cons (x y : KC) (xs ys : List KC) : eqK (x :: xs) (y :: ys) = (KC.eq x y && eqK xs ys) := by
  cases ys with
  | nil => cases xs <;> simp [eqK]
  | cons z zs => simp [eqK]
theorem KC.eq_iff {x y : KC} : KC.eq x y = true ↔ x = y := by
  cases x <;> cases y <;> simp [KC.eq]
theorem eqK_iff : ∀ {xs ys : List KC}, eqK xs ys = true ↔ xs = ys
  | [], [] => by simp [eqK]
  | [], _ :: _ => by simp [eqK]
  | _ :: _, [] => by simp [eqK]
  | x :: xs, y :: ys => by rw [eqK_cons, Bool.and_eq_true, KC.eq_iff, eqK_iff]; simp
theorem eqK_false {xs ys : List KC} (h : eqK xs ys = false) : xs ≠ ys := fun e => by rw [eqK_iff.2 e] at h; simp at h
theorem kcV_inj {c : Cel} {x y : KC} (hx : kcFit c x = true) (hy : kcFit c y = true) (h : kcV c x = kcV c y) : x = y := by
  cases c <;> cases x <;> simp [kcFit] at hx <;> cases y <;> simp [kcFit] at hy <;> simp [kcV] at h <;> rw [h]
theorem kVs_inj : ∀ {cels : List Cel} {k q : List KC}, kFit cels k = true → kFit cels q = true → kVs cels k = kVs cels q → k = q
  | [], [], [], _, _, _ => rfl
  | [], _ :: _, _, h, _, _ => by simp [kFit] at h
  | [], [], _ :: _, _, h, _ => by simp [kFit] at h
  | _ :: _, [], _, h, _, _ => by simp [kFit] at h
  | _ :: _, _ :: _, [], _, h, _ => by simp [kFit] at h
  | c :: cs, x :: k, y :: q, h1, h2, h => by
    simp only [kFit, Bool.and_eq_true] at h1 h2
    simp only [kVs, List.cons.injEq] at h
    rw [kcV_inj h1.1 h2.1 h.1, kVs_inj h1.2 h2.2 h.2]
theorem kVs_len : ∀ {cels : List Cel} {k : List KC}, kFit cels k = true → (kVs cels k).length = cels.length
  | [], [], _ => rfl
  | [], _ :: _, h => by simp [kFit] at h
  | _ :: _, [], h => by simp [kFit] at h
  | c :: cs, x :: k, h => by
    simp only [kFit, Bool.and_eq_true] at h
    simp [kVs, kVs_len h.2]
theorem kcV_one {c : Cel} {x : KC} (h : kcFit c x = true) : (kcV c x).oneCell' = true := by
  cases c <;> cases x <;> simp [kcFit] at h <;> rfl
theorem scal_kc {c : Cel} {k : SK} {x y : KC} (h : sameKind c k = true) (hx : kcFit c x = true) (hy : kcFit c y = true) : scal k (kcV c x) (kcV c y) = some (KC.eq x y) := by
  cases c <;> cases k <;> simp [sameKind] at h <;> cases x <;> simp [kcFit] at hx <;> cases y <;> simp [kcFit] at hy <;> simp [scal, kcV, KC.eq]
theorem scalL_k : ∀ {cels : List Cel} {ks : List SK} {k q : List KC}, sameKinds cels ks = true → kFit cels k = true → kFit cels q = true → scalL ks (kVs cels k) (kVs cels q) = some (eqK k q)
  | [], [], [], [], _, _, _ => rfl
  | [], _ :: _, _, _, h, _, _ => by simp [sameKinds] at h
  | _ :: _, [], _, _, h, _, _ => by simp [sameKinds] at h
  | [], [], _ :: _, _, _, h, _ => by simp [kFit] at h
  | [], [], [], _ :: _, _, _, h => by simp [kFit] at h
  | _ :: _, _ :: _, [], _, _, h, _ => by simp [kFit] at h
  | _ :: _, _ :: _, _ :: _, [], _, _, h => by simp [kFit] at h
  | c :: cs, s :: ks, x :: k, y :: q, h, h1, h2 => by
    simp only [kFit, sameKinds, Bool.and_eq_true] at h h1 h2
    simp only [kVs, scalL, scal_kc h.1 h1.1 h2.1, scalL_k h.2 h1.2 h2.2, eqK_cons]
theorem sameKinds_len : ∀ {cels : List Cel} {ks : List SK}, sameKinds cels ks = true → cels.length = ks.length
  | [], [], _ => rfl
  | [], _ :: _, h => by simp [sameKinds] at h
  | _ :: _, [], h => by simp [sameKinds] at h
  | _ :: _, _ :: _, h => by
    simp only [sameKinds, Bool.and_eq_true] at h
    simp [sameKinds_len h.2]
section
variable {P : Program} {κ : Ctx} {σ : Store} {φ : Places} {get : Get} {w : World} {out : OpOut} {nb : Nat}
theorem kcOf_ok : ∀ {cels : List Cel} {xs : List AV} {k : List KC} {ys : List Value}, kcOf cels xs = some k → VL σ φ xs ys → kFit cels k = true ∧ ys = kVs cels k := by
  intro cels
  induction cels with
  | nil =>
    intro xs k ys h hv
    cases xs with
    | nil => simp [kcOf] at h; subst h; exact ⟨rfl, List.eq_nil_of_length_eq_zero hv.1.symm⟩
    | cons x xs => simp [kcOf] at h
  | cons c cels ih =>
    intro xs k ys h hv
    cases xs with
    | nil => cases c <;> simp [kcOf] at h
    | cons x xs =>
      cases ys with
      | nil => have := hv.1; simp at this
      | cons y ys =>
        have hx : V σ φ x y := hv.2 0 x y (by simp) (by simp)
        have hxs : VL σ φ xs ys := ⟨by have := hv.1; simpa using this, fun j c z hc hz => hv.2 (j + 1) c z (by simpa using hc) (by simpa using hz)⟩
        have fin : ∀ {a : KC}, ((kcOf cels xs).map fun r => a :: r) = some k → kcFit c a = true → y = kcV c a → kFit (c :: cels) k = true ∧ y :: ys = kVs (c :: cels) k := by
          intro a hm ha hy
          obtain ⟨r, hr, rfl⟩ := Option.map_eq_some_iff.1 hm
          obtain ⟨i1, i2⟩ := ih hr hxs
          exact ⟨by simp [kFit, ha, i1], by simp [kVs, hy, ← i2]⟩
        cases c with
        | int kk =>
          cases x with
          | v xv =>
            cases xv with
            | int k' n =>
              simp only [kcOf] at h
              split at h
              · rename_i e; subst e
                exact fin h rfl hx.v_eq
              · simp at h
            | _ => simp [kcOf] at h
          | _ => simp [kcOf] at h
        | str =>
          cases x with
          | v xv =>
            cases xv with
            | string t => simp only [kcOf] at h; exact fin h rfl hx.v_eq
            | _ => simp [kcOf] at h
          | _ => simp [kcOf] at h
        | bool =>
          cases x with
          | v xv =>
            cases xv with
            | bool t => simp only [kcOf] at h; exact fin h rfl hx.v_eq
            | _ => simp [kcOf] at h
          | sb b => simp only [kcOf] at h; exact fin h rfl hx.sb_eq
          | _ => simp [kcOf] at h
theorem keyIn_ok {ka : Bool} {cels : List Cel} {x : AV} {k : List KC} {v : Value} (h : keyIn ka cels x = some k) (hx : V σ φ x v) : kFit cels k = true ∧ v = kVal ka cels k := by
  unfold keyIn at h
  cases ka with
  | true =>
    simp only at h
    split at h
    · rename_i cs
      obtain ⟨ys, rfl, hl, hp⟩ := hx.agg_inv
      obtain ⟨h1, h2⟩ := kcOf_ok h (VL_of_agg hl hp)
      exact ⟨h1, by show Value.agg ys = .agg ⟨kVs cels k⟩; rw [← h2]⟩
    · simp at h
  | false =>
    simp only at h
    obtain ⟨h1, h2⟩ := kcOf_ok (ys := [v]) h ⟨rfl, fun j c y hc hy => by
      cases j with
      | zero => simp at hc hy; subst hc; subst hy; exact hx
      | succ j => simp at hc⟩
    exact ⟨h1, by show v = (kVs cels k).headD _; rw [← h2]; rfl⟩
theorem keyFits_ok {kt : TypeId} {cels : List Cel} {ka : Bool} (h : keyFits P kt cels ka = true) : ∃ ks, kindsT P 20 kt = some ks ∧ sameKinds cels ks = true ∧ ∀ k, kFit cels k = true → kVal ka cels k = vOf P kt (kVs cels k) := by
  unfold keyFits at h
  split at h
  · rename_i ks a hk ha
    simp only [Bool.and_eq_true, beq_iff_eq] at h
    obtain ⟨h1, rfl⟩ := h
    refine ⟨ks, hk, h1, fun k hf => ?_⟩
    rcases kinds_agg hk with ⟨fs, hu, ha'⟩ | ⟨ha', hl, hu⟩
    · rw [ha] at ha'
      obtain rfl := Option.some.inj ha'
      simp [kVal, vOf, hu]
    · rw [ha] at ha'
      obtain rfl := Option.some.inj ha'
      unfold vOf kVal
      cases hu' : P.underlying kt with
      | none => simp
      | some u => cases u <;> first | exact absurd hu' (hu _) | simp
  · simp at h
theorem kVal_inj {kt : TypeId} {cels : List Cel} {ka : Bool} (h : keyFits P kt cels ka = true) {k q : List KC} (hk : kFit cels k = true) (hq : kFit cels q = true) (e : kVal ka cels k = kVal ka cels q) : k = q := by
  unfold keyFits at h
  split at h
  · rename_i ks a hkk ha
    simp only [Bool.and_eq_true, beq_iff_eq] at h
    obtain ⟨h1, rfl⟩ := h
    rcases kinds_agg hkk with ⟨fs, hu, ha'⟩ | ⟨ha', hl, hu⟩
    · rw [ha] at ha'
      obtain rfl := Option.some.inj ha'
      simp only [kVal, Value.agg.injEq, Array.mk.injEq] at e
      exact kVs_inj hk hq e
    · rw [ha] at ha'
      obtain rfl := Option.some.inj ha'
      simp only [kVal] at e
      refine kVs_inj hk hq ?_
      have l1 := kVs_len hk
      have l2 := kVs_len hq
      rw [sameKinds_len h1, hl] at l1 l2
      match hx : kVs cels k, hy : kVs cels q, l1, l2 with
      | [x], [y], _, _ => rw [hx, hy] at e; simpa using e
  · simp at h
/-! ### a key that may be one -/
theorem checkKey_plain : ∀ (D : Nat) {t : TypeId} {ks : List SK} {d : Nat} {X : List Value} {e : Bool}, kindsT P D t = some ks → D ≤ d → X.length = ks.length →
    (Instr.checkKey e d t (vOf P t X)).run P w = .ok () w := by
  intro D
  induction D with
  | zero => intro t ks d X e h; simp [kindsT] at h
  | succ D ih =>
    intro t ks d X e h hd hlen
    obtain ⟨d, rfl⟩ : ∃ e, d = e + 1 := ⟨d - 1, by omega⟩
    rcases kinds_agg h with ⟨fs, hu, _⟩ | ⟨_, hk, hu⟩
    · have hf : kindsFs P (kindsT P D) 0 fs.toList = some ks := by
        unfold kindsT at h
        rw [hu] at h
        simp only at h
        split at h
        · simp at h
        · exact h
      have loop : ∀ (body : Field → Unit → Sem (ForInStep Unit)), (∀ (f : Field) (s : Unit), f.name ≠ "_" → body f s = (do
              let a ← part f.type X.toArray f.offset
              Instr.checkKey e d f.type a
              pure (ForInStep.yield ()))) →
          ∀ (l : List Field) (off : Nat) (r : List SK), kindsFs P (kindsT P D) off l = some r → off + r.length = X.length →
          (forIn l () body).run P w = .ok () w := by
        intro body hbody l
        induction l with
        | nil => intro off r hk _; simp
        | cons f l ihl =>
          intro off r hk hoff
          simp only [kindsFs] at hk
          split at hk
          · rename_i hn
            obtain ⟨hn, ho⟩ := hn
            split at hk
            · rename_i kf hkf
              split at hk
              · rename_i hsz
                split at hk
                · rename_i r' hr'
                  simp only [Option.some.injEq] at hk
                  subst hk
                  simp only [List.length_append] at hoff
                  rw [List.forIn_cons, hbody f _ hn, ho]
                  simp only [Sem.run_bind]
                  rw [run_part hkf hsz (xs := X.toArray) (by simp; omega), Result.andThen_ok, ih hkf (by omega) (by simp; omega), Result.andThen_ok]
                  simp only [Sem.run_pure, Result.andThen_ok]
                  exact ihl (off + kf.length) r' hr' (by omega)
                · simp at hk
              · simp at hk
            · simp at hk
          · simp at hk
      unfold Instr.checkKey
      simp only [Sem.run_bind, run_underlying hu, Result.andThen_ok, vOf, hu]
      rw [← Array.forIn_toList, loop _ (fun f s h => by rw [if_pos h]) fs.toList 0 ks hf (by omega)]
      rfl
    · unfold Instr.checkKey
      unfold kindsT at h
      cases hu' : P.underlying t with
      | none => rw [hu'] at h; simp at h
      | some u =>
        rw [hu'] at h
        simp only [Sem.run_bind, run_underlying hu', Result.andThen_ok]
        cases u <;> simp at h <;> first | exact absurd hu' (hu _) | simp
/-! ### the search -/
/-- what a search answers -/
def Found (ka : Bool) (cels : List Cel) (k : List KC) (l : List MapEntry) (i : Nat) : Option (Nat × Value) → Prop
  | none => ∀ e ∈ l, e.key ≠ kVal ka cels k
  | some (j, v) => ∃ e, i ≤ j ∧ l[j - i]? = some e ∧ e.key = kVal ka cels k ∧ e.val = v
theorem Found.cons {ka : Bool} {cels : List Cel} {k : List KC} {e : MapEntry} {l : List MapEntry} {i : Nat} {r : Option (Nat × Value)} (he : e.key ≠ kVal ka cels k) (h : Found ka cels k l (i + 1) r) : Found ka cels k (e :: l) i r := by
  cases r with
  | none =>
    intro x hx
    rcases List.mem_cons.1 hx with rfl | hx
    · exact he
    · exact h x hx
  | some q =>
    obtain ⟨j, v⟩ := q
    obtain ⟨x, h1, h2, h3, h4⟩ := h
    refine ⟨x, by omega, ?_, h3, h4⟩
    rw [show j - i = (j - (i + 1)) + 1 by omega]; simpa using h2
theorem findAsking_ok {kt : TypeId} {cels : List Cel} {ka : Bool} (hf : keyFits P kt cels ka = true) {k : List KC} (hk : kFit cels k = true) : ∀ (l : List MapEntry) (i : Nat), (∀ e ∈ l, ∃ q, kFit cels q = true ∧ e.key = kVal ka cels q) →
    ∃ r, (Instr.findAsking kt (kVal ka cels k) l i).run P w = .ok r w ∧ Found ka cels k l i r := by
  obtain ⟨ks, h1, h2, h3⟩ := keyFits_ok hf
  intro l
  induction l with
  | nil => intro i _; exact ⟨none, by simp [Instr.findAsking], fun e he => by simp at he⟩
  | cons e l ih =>
    intro i hl
    obtain ⟨q, hq, he⟩ := hl e (by simp)
    have heq : (Op.equal kt (kVal ka cels k) e.key).run P w = .ok (eqK k q) w := by
      rw [he, h3 k hk, h3 q hq]
      exact equalIn_plain 20 h1 (by decide) (scalL_k h2 hk hq)
    cases hb : eqK k q with
    | true =>
      rw [hb] at heq
      refine ⟨some (i, e.val), by simp only [Instr.findAsking, Sem.run_bind, heq, Result.andThen_ok, if_true, Sem.run_pure], e, Nat.le_refl _, by simp, ?_, rfl⟩
      rw [he, eqK_iff.1 hb]
    | false =>
      rw [hb] at heq
      obtain ⟨r, r1, r2⟩ := ih (i + 1) fun x hx => hl x (by simp [hx])
      refine ⟨r, by simp only [Instr.findAsking, Sem.run_bind, heq, Result.andThen_ok, Bool.false_eq_true, if_false, r1], r2.cons fun ek => ?_⟩
      rw [he] at ek
      exact eqK_false hb (kVal_inj hf hk hq ek.symm)
theorem sameNow_ok {kind : TypeDesc} {x y : Value} {b : Bool} (h : Instr.sameNow kind x y = some b) : b = true ↔ y = x := by
  unfold Instr.sameNow at h
  split at h
  · split at h
    · rename_i e; subst e
      simp only [Option.some.injEq] at h; subst h
      rw [int_beq, decide_eq_true_iff]
      exact ⟨fun e => by rw [e], fun e => by cases e; rfl⟩
    · simp at h
  · simp only [Option.some.injEq] at h; subst h
    rw [byteArray_beq, decide_eq_true_iff]
    exact ⟨fun e => by rw [e], fun e => by cases e; rfl⟩
  · simp only [Option.some.injEq] at h; subst h
    rw [beq_iff_eq]
    exact ⟨fun e => by rw [e], fun e => by cases e; rfl⟩
  · simp at h
theorem findNow_ok {kind : TypeDesc} {cels : List Cel} {ka : Bool} {k : List KC} : ∀ (l : List MapEntry) (i : Nat) (r : Option (Nat × Value)), Instr.findNow kind (kVal ka cels k) l i = some r → Found ka cels k l i r := by
  intro l
  induction l with
  | nil =>
    intro i r h
    simp only [Instr.findNow, Option.some.injEq] at h
    subst h
    exact fun e he => by simp at he
  | cons e l ih =>
    intro i r h
    simp only [Instr.findNow] at h
    split at h
    · rename_i hs
      simp only [Option.some.injEq] at h
      subst h
      exact ⟨e, Nat.le_refl _, by simp, (sameNow_ok hs).1 rfl, rfl⟩
    · rename_i hs
      exact (ih (i + 1) r h).cons fun ek => by have := (sameNow_ok hs).2 ek; simp at this
    · simp at h
theorem findKey_ok {kt : TypeId} {cels : List Cel} {ka : Bool} (hf : keyFits P kt cels ka = true) {k : List KC} (hk : kFit cels k = true) {l : List MapEntry} (hl : ∀ e ∈ l, ∃ q, kFit cels q = true ∧ e.key = kVal ka cels q) :
    ∃ r, (Instr.findKey kt (kVal ka cels k) l).run P w = .ok r w ∧ Found ka cels k l 0 r := by
  obtain ⟨ks, h1, h2, h3⟩ := keyFits_ok hf
  obtain ⟨u, hu⟩ : ∃ u, P.underlying kt = some u := by
    cases hu : P.underlying kt with
    | none => unfold kindsT at h1; rw [hu] at h1; simp at h1
    | some u => exact ⟨u, rfl⟩
  unfold Instr.findKey
  simp only [Sem.run_bind, run_underlying hu, Result.andThen_ok]
  cases hn : Instr.findNow u (kVal ka cels k) l 0 with
  | some r => exact ⟨r, by simp, findNow_ok l 0 r hn⟩
  | none => exact findAsking_ok hf hk l 0 hl
theorem checkKey_ok {kt : TypeId} {cels : List Cel} {ka e : Bool} (hf : keyFits P kt cels ka = true) {k : List KC} (hk : kFit cels k = true) : (Instr.checkKey e 10000 kt (kVal ka cels k)).run P w = .ok () w := by
  obtain ⟨ks, h1, h2, h3⟩ := keyFits_ok hf
  rw [h3 k hk]
  exact checkKey_plain 20 h1 (by decide) (by rw [kVs_len hk, sameKinds_len h2])
theorem sameBits_kc {n : Nat} {c : Cel} {x : KC} (h : kcFit c x = true) : Instr.sameBits n (kcV c x) (kcV c x) = true := by
  cases c <;> cases x <;> simp [kcFit] at h <;> simp [kcV, Instr.sameBits, int_beq, byteArray_beq]
theorem sameBits_k {ka : Bool} {cels : List Cel} {k : List KC} (h : kFit cels k = true) (hl : ka = false → cels.length = 1) : Instr.sameBits 10000 (kVal ka cels k) (kVal ka cels k) = true := by
  have key : ∀ {cels : List Cel} {k : List KC}, kFit cels k = true → ((kVs cels k).zip (kVs cels k)).all (fun (x, y) => Instr.sameBits 9999 x y) = true := by
    intro cels
    induction cels with
    | nil => intro k _; simp [kVs]
    | cons c cels ih =>
      intro k h
      cases k with
      | nil => simp [kFit] at h
      | cons x k =>
        simp only [kFit, Bool.and_eq_true] at h
        simp only [kVs, List.zip_cons_cons, List.all_cons, Bool.and_eq_true]
        exact ⟨sameBits_kc h.1, ih h.2⟩
  cases ka with
  | true =>
    simp only [kVal]
    rw [show (10000 : Nat) = 9999 + 1 from rfl, Instr.sameBits]
    simpa using key h
  | false =>
    match cels, k, h, hl rfl with
    | [c], [x], h, _ =>
      simp only [kFit, Bool.and_eq_true] at h
      exact sameBits_kc h.1
    | [c], [], h, _ => simp [kFit] at h
    | [c], _ :: _ :: _, h, _ => simp [kFit] at h
/-! ### the operations -/
theorem mapT_some {t kt vt : TypeId} (h : mapT P t = some (kt, vt)) : P.underlying t = some (.map kt vt) := by
  unfold mapT at h
  split at h <;> simp_all
theorem mvAt_wrap {va : Bool} {cs : List AV} {v : Value} {x : AV} (h : mvAt σ va cs v) (hw : wrapUp va cs = some x) : V σ φ x v := by
  cases va with
  | true =>
    obtain ⟨ys, rfl, hl, hp⟩ := h
    simp only [wrapUp, Option.some.injEq] at hw
    subst hw
    exact .agg hl fun j c y hc hy => .base (hp j c y hc hy)
  | false =>
    obtain ⟨c, rfl, hp⟩ := h
    simp only [wrapUp, Option.some.injEq] at hw
    subst hw
    exact .base hp
theorem zeroV_ok {t : TypeId} {va : Bool} {z : List AV} (h : zeroV P t va = some z) : ∃ v, (zeroValue t).run P w = .ok v w ∧ mvAt σ va z v := by
  unfold zeroV at h
  cases hi : P.info? t with
  | none => simp [hi] at h
  | some i =>
    rw [hi, Option.bind_some] at h
    split at h
    · rename_i ys hz
      split at h
      · simp only [Option.some.injEq] at h
        subst h
        refine ⟨.agg ys, by simp [zeroValue, run_typeInfo hi, hz], ys, rfl, by simp, fun j c y hc hy => ?_⟩
        simp only [List.getElem?_map, Array.getElem?_toList, hy, Option.map_some, Option.some.injEq] at hc
        subst hc
        exact .v _
      · simp at h
    · rename_i x _ hz
      split at h
      · simp at h
      · simp only [Option.some.injEq] at h
        subst h
        exact ⟨x, by simp [zeroValue, run_typeInfo hi, hz], _, rfl, .v _⟩
    · simp at h
theorem mapAns_ok {va ok there : Bool} {cs : List AV} {v : Value} (h : (mapAns va ok cs there).get = some out) (hv : ∀ x, wrapUp va cs = some x → V σ φ x v) :
    out.upd = [] ∧ out.new = [] ∧ V σ φ out.val (if ok then .tuple #[v, .bool there] else v) := by
  unfold mapAns at h
  split at h
  · rename_i x hw
    cases ok with
    | true =>
      obtain rfl := get_one h
      refine ⟨rfl, rfl, .tup rfl fun j c y hc hy => ?_⟩
      match j with
      | 0 => simp at hc hy; subst hc; subst hy; exact hv x hw
      | 1 => simp at hc hy; subst hc; subst hy; exact V_v _
      | j + 2 => simp at hc
    | false =>
      obtain rfl := get_one h
      exact ⟨rfl, rfl, hv x hw⟩
  · simp [Tree.get] at h
theorem makeMap_ok {t : TypeId} {r : Option AV} {vr : Option Value} (h : (makeMapE P nb t r).get = some out) (hr : r = none → vr = none) (hR : R κ σ φ get w) (hn : ∀ k, nb ≤ k → k < nb + out.new.length → φ k = none) :
    Eff P κ σ φ nb get w (Instr.makeMap t vr) out := by
  unfold makeMapE at h
  split at h
  · split at h
    · split at h
      · split at h
        · simp only [Tree.get, Option.some.injEq] at h
          subst h
          obtain rfl := hr rfl
          have hnb : φ nb = none := hn nb (Nat.le_refl _) (by simp)
          let w1 : World := { w with heap := w.heap.push (.map #[] 0) }
          have hrun : (Instr.makeMap t none).run P w = .ok (.map (some w.heap.size)) w1 := by
            unfold Instr.makeMap
            simp [newObj, Sem.run, w1]
          refine ⟨_, _, fun k => if k = nb then some ⟨w.heap.size, 0, 0, 0, 0, false⟩ else φ k, hrun, ?_, ?_, ?_, ?_⟩
          · exact fun j K hj => by
              by_cases e : j = nb
              · subst e; rw [hnb] at hj; simp at hj
              · simp [e, hj]
          · exact fun k hk hkk => by
              have : k ≠ nb := by simp at hkk; omega
              simp [this, hk]
          · exact .map (L := ⟨w.heap.size, 0, 0, 0, 0, false⟩) (by simp) rfl
          · exact hR.new hnb rfl rfl rfl rfl rfl (fun φ' hle => ⟨#[], 0, by simp [w1], rfl, by simp, fun e he => by simp at he, fun k _ hk => by simp at hk⟩) trivial (fun _ _ _ h' => by cases h')
        · simp [Tree.get] at h
      · simp [Tree.get] at h
    · simp [Tree.get] at h
  · simp [Tree.get] at h
theorem lookup_ok {t : TypeId} {x ix : AV} {vx vi : Value} {ok : Bool} (h : (lookupE P get t x ix ok).get = some out) (hx : V σ φ x vx) (hi : V σ φ ix vi) (hR : R κ σ φ get w) :
    Pur P σ φ w (Instr.lookup t vx vi ok) out := by
  unfold lookupE at h
  split at h
  · rename_i kt vt ht
    split at h
    · rename_i va ha
      split at h
      · rename_i z hz
        obtain ⟨zv, z1, z2⟩ := zeroV_ok (w := w) (σ := σ) hz
        split at h
        · rename_i i
          split at h
          · rename_i cels ka va' n has val hg
            split at h
            · rename_i hc
              simp only [Bool.and_eq_true, beq_iff_eq] at hc
              obtain ⟨hf, rfl⟩ := hc
              split at h
              · rename_i k hk
                cases hx with
                | base h0 => cases h0
                | @map _ L hL hr =>
                  obtain ⟨hkf, rfl⟩ := keyIn_ok hk hi
                  obtain ⟨es, clock, b1, b2, b3, b4, b5⟩ := hR.obj i _ L hg hL hr
                  have hl : ∀ e ∈ es.toList, ∃ q, kFit cels q = true ∧ e.key = kVal ka cels q := fun e he => let ⟨q, q1, q2, _, _⟩ := b4 e he; ⟨q, q1, q2⟩
                  obtain ⟨r, r1, r2⟩ := findKey_ok (w := w) hf hkf hl
                  have hgo : (getObj L.b).run P w = .ok (.map es clock) w := by simp [getObj, Sem.run, b1]
                  have hrun : ∀ v there, (match r with | some (_, v) => (v, true) | none => (zv, false)) = (v, there) → (Instr.lookup t (.map (some L.b)) (kVal ka cels k) ok).run P w = .ok (if ok then .tuple #[v, .bool there] else v) w := by
                    intro v there e
                    unfold Instr.lookup
                    simp only [Sem.run_bind, run_underlying (mapT_some ht), Result.andThen_ok, hgo, Sem.run_pure, checkKey_ok (e := es.isEmpty) hf hkf, r1]
                    cases r with
                    | none => simp only at e; cases e; simp [z1]
                    | some q => simp only at e; cases e; simp
                  cases hhas : has k with
                  | true =>
                    rw [hhas] at h
                    obtain ⟨e, he, hek⟩ := b5 k hkf hhas
                    match r, r2, hrun with
                    | none, r2, _ => exact absurd hek (r2 e he)
                    | some (j, v), ⟨e', _, h2, h3, h4⟩, hrun =>
                      have hm : e' ∈ es.toList := List.mem_of_getElem? h2
                      obtain ⟨q, q1, q2, _, q4⟩ := b4 e' hm
                      have : q = k := kVal_inj hf q1 hkf (by rw [← q2, h3])
                      subst this
                      obtain ⟨o1, o2, o3⟩ := mapAns_ok (v := v) (φ := φ) h (fun x hw => mvAt_wrap (by rw [← h4]; exact q4) hw)
                      exact ⟨_, hrun v true rfl, o3, o1, o2⟩
                  | false =>
                    rw [hhas] at h
                    match r, r2, hrun with
                    | none, _, hrun =>
                      obtain ⟨o1, o2, o3⟩ := mapAns_ok (v := zv) (φ := φ) h (fun x hw => mvAt_wrap z2 hw)
                      exact ⟨_, hrun zv false rfl, o3, o1, o2⟩
                    | some (j, v), ⟨e', _, h2, h3, h4⟩, _ =>
                      have hm : e' ∈ es.toList := List.mem_of_getElem? h2
                      obtain ⟨q, q1, q2, q3, _⟩ := b4 e' hm
                      have : q = k := kVal_inj hf q1 hkf (by rw [← q2, h3])
                      subst this
                      rw [hhas] at q3; simp at q3
              · simp [Tree.get] at h
            · simp [Tree.get] at h
          · simp [Tree.get] at h
        · split at h
          · rename_i cels ka _ _
            split at h
            · rename_i k hf hk
              cases hx.v_eq
              obtain ⟨hkf, rfl⟩ := keyIn_ok hk hi
              have hrun : (Instr.lookup t (.map none) (kVal ka cels k) ok).run P w = .ok (if ok then .tuple #[zv, .bool false] else zv) w := by
                obtain ⟨r, r1, r2⟩ := findKey_ok (w := w) (l := []) hf hkf (fun e he => by simp at he)
                have : r = none := by
                  cases r with
                  | none => rfl
                  | some q => obtain ⟨e, _, h2, _⟩ := r2; simp at h2
                subst this
                unfold Instr.lookup
                simp only [Sem.run_bind, run_underlying (mapT_some ht), Result.andThen_ok, Sem.run_pure, checkKey_ok (e := (#[] : Array MapEntry).isEmpty) hf hkf, r1, z1]
              obtain ⟨o1, o2, o3⟩ := mapAns_ok (v := zv) (φ := φ) h (fun x hw => mvAt_wrap z2 hw)
              exact ⟨_, hrun, o3, o1, o2⟩
            · simp [Tree.get] at h
          · simp [Tree.get] at h
        · simp [Tree.get] at h
      · simp [Tree.get] at h
    · simp [Tree.get] at h
  · simp [Tree.get] at h
theorem mixMV_ok0 {c : Bool} {x y : AV} {v : Value} (h : V0 σ (bif c then x else y) v) : V0 σ (mixMV c x y) v := by
  have := mix_ok0 (c := c) h
  unfold mixMV
  split
  · exact h
  · exact this
theorem mixML_len : ∀ {c : Bool} {xs ys : List AV}, xs.length = ys.length → (mixML c xs ys).length = xs.length
  | _, [], [], _ => rfl
  | _, [], _ :: _, h => by simp at h
  | _, _ :: _, [], h => by simp at h
  | c, x :: xs, y :: ys, h => by simp [mixML, mixML_len (c := c) (show xs.length = ys.length by simpa using h)]
theorem mixML_get : ∀ {c : Bool} {a b : List AV} {j : Nat} {z : AV}, (mixML c a b)[j]? = some z → ∃ x y, a[j]? = some x ∧ b[j]? = some y ∧ z = mixMV c x y
  | c, [], b, j, z, h => by cases b <;> simp [mixML] at h
  | c, _ :: _, [], j, z, h => by simp [mixML] at h
  | c, x :: xs, y :: ys, 0, z, h => by simp [mixML] at h; exact ⟨x, y, rfl, rfl, h.symm⟩
  | c, x :: xs, y :: ys, j + 1, z, h => by
    obtain ⟨x', y', h1, h2, h3⟩ := mixML_get (c := c) (a := xs) (b := ys) (j := j) (by simpa [mixML] using h)
    exact ⟨x', y', by simpa using h1, by simpa using h2, h3⟩
theorem eitherL_mv {c va : Bool} {xs ys : List AV} {v : Value} (h : mvAt σ va (bif c then xs else ys) v) : mvAt σ va (eitherL c xs ys) v := by
  unfold eitherL
  split
  · rename_i hl
    have hl := Nat.eq_of_beq_eq_true hl
    cases va with
    | true =>
      obtain ⟨zs, rfl, h1, h2⟩ := h
      refine ⟨zs, rfl, by rw [mixML_len hl, ← h1]; cases c <;> simp [hl], fun j z y hz hy => ?_⟩
      obtain ⟨x', y', k1, k2, rfl⟩ := mixML_get hz
      refine mixMV_ok0 (h2 j (bif c then x' else y') y ?_ hy)
      cases c
      · exact k2
      · exact k1
    | false =>
      obtain ⟨z, h1, h2⟩ := h
      match xs, ys, hl, c, h1 with
      | [x], [y], _, true, h1 =>
        simp only [cond_true, List.cons.injEq, and_true] at h1
        subst h1
        exact ⟨_, rfl, mixMV_ok0 (c := true) h2⟩
      | [x], [y], _, false, h1 =>
        simp only [cond_false, List.cons.injEq, and_true] at h1
        subst h1
        exact ⟨_, rfl, mixMV_ok0 (c := false) h2⟩
      | [], [], _, true, h1 => simp at h1
      | [], [], _, false, h1 => simp at h1
      | _ :: _ :: _, _ :: _ :: _, _, true, h1 => simp at h1
      | _ :: _ :: _, _ :: _ :: _, _, false, h1 => simp at h1
  · exact h
theorem cellsFor_ok {va : Bool} {x : AV} {cs : List AV} {v : Value} (h : cellsFor va x = some cs) (hv : V σ φ x v) : mvAt σ va cs v := by
  unfold cellsFor at h
  cases va with
  | true =>
    simp only at h
    split at h
    · rename_i cs'
      split at h
      · rename_i hf
        simp only [Option.some.injEq] at h
        subst h
        obtain ⟨ys, rfl, hl, hp⟩ := hv.agg_inv
        exact ⟨ys, rfl, hl, fun j c y hc hy => (hp j c y hc hy).free (List.all_eq_true.1 hf c (List.mem_of_getElem? hc))⟩
      · simp at h
    · simp at h
  | false =>
    simp only at h
    split at h
    · rename_i hf
      simp only [Option.some.injEq] at h
      subst h
      simp only [Bool.and_eq_true] at hf
      exact ⟨x, rfl, hv.free hf.1⟩
    · simp at h
theorem mapUpd_ok {t : TypeId} {m k x : AV} {vm vk vx : Value} (h : (mapUpdE P get t m k x).get = some out) (hm : V σ φ m vm) (hk : V σ φ k vk) (hx : V σ φ x vx) (hR : R κ σ φ get w) :
    ∃ i b w', out = { val := .any, upd := [(i, b)] } ∧ (get i).isSome ∧ (Instr.mapUpdate t vm vk vx).run P w = .ok () w' ∧ R κ σ φ (updG get i b) w' := by
  unfold mapUpdE at h
  split at h
  · rename_i kt vt ht
    split at h
    · rename_i i
      split at h
      · rename_i cels ka va n has val hg
        split at h
        · rename_i q cs hf hq hcs
          simp only [Bool.and_eq_true, Bool.or_eq_true] at hf
          obtain ⟨hf, hka⟩ := hf
          simp only [Tree.get, Option.some.injEq] at h
          subst h
          cases hm with
          | base h0 => cases h0
          | @map _ L hL hr =>
            obtain ⟨hkf, rfl⟩ := keyIn_ok hq hk
            obtain ⟨es, clock, b1, b2, b3, b4, b5⟩ := hR.obj i _ L hg hL hr
            have hlt := hR.lt i L hL hr
            have hl : ∀ e ∈ es.toList, ∃ q, kFit cels q = true ∧ e.key = kVal ka cels q := fun e he => let ⟨q, q1, q2, _, _⟩ := b4 e he; ⟨q, q1, q2⟩
            obtain ⟨r, r1, r2⟩ := findKey_ok (w := w) hf hkf hl
            have hgo : (getObj L.b).run P w = .ok (.map es clock) w := by simp [getObj, Sem.run, b1]
            have hmv : mvAt σ va cs vx := cellsFor_ok hcs hx
            have hka' : ka = false → cels.length = 1 := fun e => by
              subst e
              simpa using hka
            -- the map behind
            obtain ⟨es', clock', hset, c2, c3, c4, c5⟩ : ∃ es' clock', (Instr.mapUpdate t (.map (some L.b)) (kVal ka cels q) vx).run P w = .ok () { w with heap := w.heap.setIfInBounds L.b (.map es' clock') } ∧
                es'.size = (bif has q then n else n + 1) ∧ (es'.toList.map (·.key)).Nodup ∧
                (∀ e ∈ es'.toList, ∃ k, kFit cels k = true ∧ e.key = kVal ka cels k ∧ (eqK k q || has k) = true ∧ mvAt σ va (eitherL (eqK k q) cs (val k)) e.val) ∧
                (∀ k, kFit cels k = true → (eqK k q || has k) = true → ∃ e ∈ es'.toList, e.key = kVal ka cels k) := by
              have hso : ∀ o, (setObj L.b o).run P w = .ok () { w with heap := w.heap.setIfInBounds L.b o } := fun o => by
                unfold setObj
                simp only [Sem.run]
                rw [b1]
              match r, r2, r1 with
              | none, r2, r1 =>
                have hnew : has q = false := by
                  cases hh : has q with
                  | false => rfl
                  | true => obtain ⟨e, he, hek⟩ := b5 q hkf hh; exact absurd hek (r2 e he)
                refine ⟨es.push { key := kVal ka cels q, val := vx, born := clock }, clock + 1, ?_, by rw [hnew]; simp [b2], ?_, ?_, ?_⟩
                · unfold Instr.mapUpdate
                  simp only [Sem.run_bind, run_underlying (mapT_some ht), Result.andThen_ok, hgo, checkKey_ok (e := false) hf hkf, r1, hso]
                · simp only [Array.toList_push, List.map_append, List.map_cons, List.map_nil]
                  refine List.nodup_append.2 ⟨b3, by simp, fun x hx y hy => ?_⟩
                  simp only [List.mem_singleton] at hy
                  subst hy
                  obtain ⟨e, he, rfl⟩ := List.mem_map.1 hx
                  exact r2 e he
                · intro e he
                  simp only [Array.toList_push, List.mem_append, List.mem_singleton] at he
                  rcases he with he | rfl
                  · obtain ⟨k, k1, k2, k3, k4⟩ := b4 e he
                    refine ⟨k, k1, k2, by rw [k3, Bool.or_true], eitherL_mv ?_⟩
                    have : eqK k q = false := by
                      cases hb : eqK k q with
                      | false => rfl
                      | true => rw [eqK_iff.1 hb] at k2; exact absurd k2 (r2 e he)
                    rw [this]; exact k4
                  · exact ⟨q, hkf, rfl, by rw [eqK_iff.2 rfl]; rfl, eitherL_mv (by rw [eqK_iff.2 rfl]; exact hmv)⟩
                · intro k k1 k2
                  simp only [Array.toList_push, List.mem_append, List.mem_singleton]
                  cases hb : eqK k q with
                  | true => exact ⟨_, .inr rfl, by rw [eqK_iff.1 hb]⟩
                  | false =>
                    rw [hb, Bool.false_or] at k2
                    obtain ⟨e, he, hek⟩ := b5 k k1 k2
                    exact ⟨e, .inl he, hek⟩
              | some (j, v), ⟨e0, _, e2, e3, e4⟩, r1 =>
                rw [Nat.sub_zero] at e2
                have hm0 : e0 ∈ es.toList := List.mem_of_getElem? e2
                have hj : j < es.size := by have := (List.getElem?_eq_some_iff.1 e2).1; simpa using this
                have e2' : es[j]? = some e0 := by simpa using e2
                have hold : has q = true := by
                  obtain ⟨k, k1, k2, k3, _⟩ := b4 e0 hm0
                  have : k = q := kVal_inj hf k1 hkf (by rw [← k2, e3])
                  rw [← this]; exact k3
                have hkey : ∀ i, ((es.modify j fun e => { e with key := kVal ka cels q, val := vx })[i]?) = if j = i then (es[i]?).map (fun e => { e with key := kVal ka cels q, val := vx }) else es[i]? := fun i => by
                  rw [Array.getElem?_modify]
                have hks : (es.modify j fun e => { e with key := kVal ka cels q, val := vx }).toList.map (·.key) = es.toList.map (·.key) := by
                  refine List.ext_getElem? fun i => ?_
                  simp only [List.getElem?_map, Array.getElem?_toList, hkey]
                  split
                  · rename_i hji; subst hji; rw [e2']; simp [e3]
                  · rfl
                have hmem : ∀ e ∈ (es.modify j fun e => { e with key := kVal ka cels q, val := vx }).toList, (e.key = kVal ka cels q ∧ e.val = vx) ∨ (e ∈ es.toList ∧ e.key ≠ kVal ka cels q) := by
                  intro e he
                  obtain ⟨i, hi⟩ := List.getElem?_of_mem he
                  rw [Array.getElem?_toList, hkey] at hi
                  split at hi
                  · obtain ⟨e', _, rfl⟩ := Option.map_eq_some_iff.1 hi
                    exact .inl ⟨rfl, rfl⟩
                  · rename_i hji
                    refine .inr ⟨List.mem_of_getElem? (i := i) (by simpa using hi), fun ek => hji ?_⟩
                    have h1 : (es.toList.map (·.key))[i]? = some (kVal ka cels q) := by simp [hi, ek]
                    have h2 : (es.toList.map (·.key))[j]? = some (kVal ka cels q) := by simp [e2', e3]
                    have hij : j < (es.toList.map (·.key)).length := by simpa using hj
                    exact (List.getElem?_inj hij b3).1 (h2.trans h1.symm)
                refine ⟨es.modify j fun e => { e with key := kVal ka cels q, val := vx }, clock, ?_, by rw [hold]; simp [b2], by rw [hks]; exact b3, ?_, ?_⟩
                · unfold Instr.mapUpdate
                  simp only [Sem.run_bind, run_underlying (mapT_some ht), Result.andThen_ok, hgo, checkKey_ok (e := false) hf hkf, r1, e2', Option.map_some, Option.getD_some, e3, Instr.keyThatStays, sameBits_k hkf hka', if_true, Sem.run_pure, hso]
                · intro e he
                  rcases hmem e he with ⟨h1, h2⟩ | ⟨h1, h2⟩
                  · exact ⟨q, hkf, h1, by rw [eqK_iff.2 rfl]; rfl, eitherL_mv (by rw [eqK_iff.2 rfl, h2]; exact hmv)⟩
                  · obtain ⟨k, k1, k2, k3, k4⟩ := b4 e h1
                    refine ⟨k, k1, k2, by rw [k3, Bool.or_true], eitherL_mv ?_⟩
                    have : eqK k q = false := by
                      cases hb : eqK k q with
                      | false => rfl
                      | true => rw [eqK_iff.1 hb] at k2; exact absurd k2 h2
                    rw [this]; exact k4
                · intro k k1 k2
                  have : ∃ e ∈ es.toList, e.key = kVal ka cels k := by
                    cases hb : eqK k q with
                    | true => exact ⟨e0, hm0, by rw [e3, eqK_iff.1 hb]⟩
                    | false => rw [hb, Bool.false_or] at k2; exact b5 k k1 k2
                  obtain ⟨e, he, hek⟩ := this
                  have : kVal ka cels k ∈ (es.modify j fun e => { e with key := kVal ka cels q, val := vx }).toList.map (·.key) := by
                    rw [hks]; exact List.mem_map.2 ⟨e, he, hek⟩
                  obtain ⟨e', he', hek'⟩ := List.mem_map.1 this
                  exact ⟨e', he', hek'⟩
            let w1 : World := { w with heap := w.heap.setIfInBounds L.b (.map es' clock') }
            refine ⟨i, _, w1, rfl, by rw [hg]; rfl, hset, ?_⟩
            refine hR.write hL hr (by simp [hg]) (fun b' hb' => by simp [w1, Array.getElem?_setIfInBounds, Ne.symm hb']) (by simp [w1]) rfl rfl rfl (fun blk hblk => ?_) (fun blk hblk => by simp only [Option.some.injEq] at hblk; subst hblk; trivial) (fun _ _ _ h' => by cases h')
            simp only [Option.some.injEq] at hblk
            subst hblk
            exact ⟨es', clock', by show w1.heap[L.b]? = _; simp [w1, hlt], c2, c3, c4, c5⟩
        · simp [Tree.get] at h
      · simp [Tree.get] at h
    · simp [Tree.get] at h
  · simp [Tree.get] at h
end
end Go.Eng
