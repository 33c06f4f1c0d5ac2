/- An abstract evaluator of the model's code, part I: indexes, lengths, slices. -/
import Derived.Test.YtnpfcaecaflfbaaDoorEngH
namespace Go.Eng
open Go
set_option linter.unusedSimpArgs false
set_option linter.unusedVariables false

section
variable {P : Program} {κ : Ctx} {σ : Store} {φ : Places} {get : Get} {w : World} {out : OpOut}

theorem two_true {a b : Bool} (h : (a && b) = true) : a = true ∧ b = true := by simpa using h

theorem indexAddr_ok {t : TypeId} {x ix : AV} {vx vi : Value} (h : (indexAddrE P get t x ix).get = some out) (hx : V σ φ x vx) (hi : V σ φ ix vi) (hR : R κ σ φ get w) :
    Pur P σ φ w (Instr.indexAt t vx vi) out := by
  unfold indexAddrE at h
  split at h
  · rename_i k i
    cases hi.v_eq
    split at h
    · rename_i elem he
      have hu := elemOfT_some he
      split at h
      · rename_i sz n f
        split at h
        · rename_i hsz
          obtain ⟨hc, h⟩ := get_chk h
          obtain rfl := get_one h
          obtain ⟨h0, h1⟩ := two_true hc
          simp only [decide_eq_true_eq] at h0 h1
          cases hx with
          | base hx =>
            cases hx with
            | sl _ _ _ ad cap ys hs hn hl hm ho hv =>
              have hlt : i.toNat < n := by omega
              refine ⟨.pointer (some (ad.add (i.toNat * sz))), ?_, ?_, rfl, rfl⟩
              · simp [Instr.indexAt, asIntOf, run_underlying hu, run_sizeOf hsz, h0, h1]
              · refine .base (.pp _ _ (ys i.toNat) (by rw [Addr.add_none hs]) (fun j c hc => ?_) (fun j c hc => hv _ _ _ hlt hc))
                rw [Addr.add_none hs]
                exact hm _ _ _ hlt hc
            | slnil _ _ _ A cap hl hn ha => exfalso; omega
        · simp [Tree.get] at h
      · rename_i id e n
        split at h
        · rename_i sz N f hg
          split at h
          · rename_i hsz
            obtain ⟨hc, h⟩ := get_chk h
            obtain rfl := get_one h
            obtain ⟨h0, h1⟩ := two_true hc
            simp only [decide_eq_true_eq] at h0 h1
            have hlt : i.toNat < n := by omega
            cases hx with
            | base hx => cases hx
            | @hs _ _ _ cap L hL hr hn he hxx hcc =>
              obtain ⟨e1, e2, _⟩ := hR.obj id _ L hg hL hr
              refine ⟨.pointer (some ((⟨L.b, L.base + e * L.sz, none⟩ : Addr).add (i.toNat * sz))), ?_, ?_, rfl, rfl⟩
              · simp [Instr.indexAt, asIntOf, run_underlying hu, run_sizeOf hsz, h0, h1]
              · rw [Addr.add_none rfl]
                have : L.base + e * L.sz + i.toNat * sz = L.base + (e + i.toNat) * L.sz + 0 := by rw [e1, Nat.add_mul]; omega
                rw [this]
                exact .eptr hL hr (by omega)
            | hsnil A _ _ hn => exfalso; omega
          · simp [Tree.get] at h
        · simp [Tree.get] at h
      · simp [Tree.get] at h
    · split at h
      · rename_i len elem ha
        have hu := arrOfT_some ha
        split at h
        · rename_i sz' hsz
          split at h
          · rename_i id
            split at h
            · rename_i sz n f hg
              split at h
              · rename_i hcond
                obtain ⟨rfl, rfl⟩ := hcond
                obtain ⟨hc, h⟩ := get_chk h
                obtain rfl := get_one h
                obtain ⟨h0, h1⟩ := two_true hc
                simp only [decide_eq_true_eq] at h0 h1
                cases hx with
                | base hx => cases hx
                | @ap _ L hL hr =>
                  obtain ⟨e1, e2, _⟩ := hR.obj id _ L hg hL hr
                  refine ⟨.pointer (some ((⟨L.b, L.base, none⟩ : Addr).add (i.toNat * sz))), ?_, ?_, rfl, rfl⟩
                  · simp [Instr.indexAt, asIntOf, run_underlying hu, run_sizeOf hsz, h0, h1, Instr.sureAddr]
                  · rw [Addr.add_none rfl]
                    have : L.base + i.toNat * sz = L.base + i.toNat * L.sz + 0 := by rw [e1]; omega
                    rw [this]
                    exact .eptr hL hr (by omega)
              · simp [Tree.get] at h
            · simp [Tree.get] at h
          · rename_i sz n f
            split at h
            · rename_i hcond
              obtain ⟨rfl, rfl⟩ := hcond
              obtain ⟨hc, h⟩ := get_chk h
              obtain rfl := get_one h
              obtain ⟨h0, h1⟩ := two_true hc
              simp only [decide_eq_true_eq] at h0 h1
              have hlt : i.toNat < n := by omega
              cases hx with
              | base hx =>
                cases hx with
                | pa _ _ _ ad ys hs hl hm hv =>
                  refine ⟨.pointer (some (ad.add (i.toNat * sz))), ?_, ?_, rfl, rfl⟩
                  · simp [Instr.indexAt, asIntOf, run_underlying hu, run_sizeOf hsz, h0, h1, Instr.sureAddr]
                  · refine .base (.pp _ _ (ys i.toNat) (by rw [Addr.add_none hs]) (fun j c hc => ?_) (fun j c hc => hv _ _ _ hlt hc))
                    rw [Addr.add_none hs]
                    exact hm _ _ _ hlt hc
            · simp [Tree.get] at h
          · rename_i id o
            obtain ⟨hc, h⟩ := get_chk h
            obtain rfl := get_one h
            obtain ⟨h0, h1⟩ := two_true hc
            simp only [decide_eq_true_eq] at h0 h1
            obtain ⟨ad, rfl, hq⟩ := moveP_ok (off := i.toNat * sz') (q := .ptr id (o + i.toNat * sz')) rfl hx
            refine ⟨_, ?_, hq, rfl, rfl⟩
            simp [Instr.indexAt, asIntOf, run_underlying hu, run_sizeOf hsz, h0, h1, Instr.sureAddr]
          · rename_i cs
            obtain ⟨hc, h⟩ := get_chk h
            obtain rfl := get_one h
            obtain ⟨h0, h1⟩ := two_true hc
            simp only [decide_eq_true_eq] at h0 h1
            obtain ⟨ad, rfl, hq⟩ := moveP_ok (off := i.toNat * sz') (q := .pp (cs.drop (i.toNat * sz'))) rfl hx
            refine ⟨_, ?_, hq, rfl, rfl⟩
            simp [Instr.indexAt, asIntOf, run_underlying hu, run_sizeOf hsz, h0, h1, Instr.sureAddr]
          · simp [Tree.get] at h
        · simp [Tree.get] at h
      · simp [Tree.get] at h
  · simp [Tree.get] at h

theorem index_ok {t : TypeId} {x ix : AV} {vx vi : Value} (h : (indexE P t x ix).get = some out) (hx : V σ φ x vx) (hi : V σ φ ix vi) :
    Pur P σ φ w (Instr.index t vx vi) out := by
  unfold indexE at h
  split at h
  · rename_i k i
    cases hi.v_eq
    split at h
    · rename_i s
      cases hx.v_eq
      split at h
      · rename_i hu
        obtain ⟨hc, h⟩ := get_chk h
        obtain rfl := get_one h
        obtain ⟨h0, h1⟩ := two_true hc
        simp only [decide_eq_true_eq] at h0 h1
        refine ⟨.int .u8 (sbyte s i.toNat), ?_, V_v _, rfl, rfl⟩
        have hlt : i.toNat < s.size := by omega
        have hlt' : i.toNat < s.data.size := hlt
        have hb : s[i.toNat]? = some (s.data[i.toNat]) := by
          rw [getElem?_pos s i.toNat hlt]; rfl
        unfold Instr.index
        simp only [Sem.run_bind, asIntOf, Sem.run_pure, Result.andThen_ok, run_underlying hu, h0, if_true, hb]
        simp only [sbyte]
        rw [Array.getElem?_eq_getElem hlt']; rfl
      · simp [Tree.get] at h
    · rename_i cs
      split at h
      · rename_i len elem ha
        have hu := arrOfT_some ha
        split at h
        · rename_i sz a hsz hag
          split at h
          · rename_i hl
            obtain ⟨hc, h⟩ := get_chk h
            obtain ⟨h0, h1⟩ := two_true hc
            simp only [decide_eq_true_eq] at h0 h1
            obtain ⟨x', hx', rfl⟩ := get_mapOf h
            obtain ⟨ys, rfl, hly, hv⟩ := hx.agg_inv
            have hlt : i.toNat < len := by omega
            have hz : (cs.take sz).length = sz := by
              rw [List.length_take, ← hl]
              have : 1 * sz ≤ len * sz := Nat.mul_le_mul_right _ (by omega)
              omega
            obtain ⟨hcl, hcc⟩ := chain_chunks (σ := σ) (φ := φ) hz hl.symm hlt
            have hbd : i.toNat * sz + sz ≤ ys.size := by
              rw [← hly, ← hl]
              have : (i.toNat + 1) * sz ≤ len * sz := Nat.mul_le_mul_right _ hlt
              rw [Nat.succ_mul] at this; exact this
            have hpart : ∀ v, (part elem ys (i.toNat * sz)).run P w = .ok v w → (Instr.index t (.agg ys) (.int k i)).run P w = .ok v w := by
              intro v hv
              simp [Instr.index, asIntOf, run_underlying hu, h0, h1, run_sizeOf hsz, hv]
            cases a with
            | true =>
              simp only [wrapUp, Option.some.injEq] at hx'
              subst hx'
              refine ⟨.agg (ys.extract (i.toNat * sz) (i.toNat * sz + sz)), hpart _ (by simp only [part, Sem.run_bind, run_isAgg hag, Result.andThen_ok, if_true, run_sizeOf hsz, Sem.run_pure]), .agg (by rw [hcl]; simp; omega) fun j c y hc hy => ?_, rfl, rfl⟩
              obtain ⟨d, hd, hdv⟩ := hcc j c hc
              rw [Array.getElem?_extract] at hy
              split at hy
              · exact (hdv y).2 (hv _ _ _ hd hy)
              · simp at hy
            | false =>
              simp only [wrapUp] at hx'
              split at hx'
              · rename_i c0 hch
                simp only [Option.some.injEq] at hx'
                subst hx'
                have hsz1 : sz = 1 := by rw [← hcl, hch]; rfl
                obtain ⟨d, hd, hdv⟩ := hcc 0 c0 (by rw [hch]; rfl)
                have hlt2 : i.toNat * sz < ys.size := by omega
                refine ⟨ys[i.toNat * sz], hpart _ ?_, (hdv _).2 (hv _ _ _ hd (by simp [hlt2])), rfl, rfl⟩
                simp only [part, Sem.run_bind, run_isAgg hag, Result.andThen_ok, Bool.false_eq_true, if_false]
                rw [Array.getElem?_eq_getElem hlt2]; rfl
              · simp at hx'
          · simp [Tree.get] at h
        · simp [Tree.get] at h
      · simp [Tree.get] at h
    · simp [Tree.get] at h
  · simp [Tree.get] at h

theorem extract_ok {vs : List AV} {i : Nat} {x : AV} {v : Value} (h : vs[i]? = some x) (hv : V σ φ (.tup vs) v) : ∃ u, (Instr.extract v i).run P w = .ok u w ∧ V σ φ x u := by
  obtain ⟨ys, rfl, hl, hp⟩ := hv.tup_inv
  have hlt : i < ys.size := by rw [← hl]; exact (List.getElem?_eq_some_iff.1 h).1
  refine ⟨ys[i], ?_, hp i x ys[i] h (by simp [hlt])⟩
  simp [Instr.extract, hlt]

theorem min_ok : ∀ {xs : List AV} {x a : AV} {v : Value} {vs : List Value}, minE x xs = some a → V σ φ x v → VL σ φ xs vs →
    ∃ u, (vs.foldlM Builtin.min2 v).run P w = .ok u w ∧ V σ φ a u := by
  intro xs
  induction xs with
  | nil =>
    intro x a v vs h hx hl
    have : vs = [] := List.eq_nil_of_length_eq_zero hl.1.symm
    subst this
    unfold minE at h
    split at h
    · simp at h; subst h; exact ⟨v, rfl, hx⟩
    · simp at h
  | cons y ys ih =>
    intro x a v vs h hx hl
    cases vs with
    | nil => have := hl.1; simp at this
    | cons vy vs =>
      have hy : V σ φ y vy := hl.2 0 y vy rfl rfl
      have hl' : VL σ φ ys vs := ⟨by have := hl.1; simpa using this, fun j c z hc hz => hl.2 (j + 1) c z (by simpa using hc) (by simpa using hz)⟩
      unfold minE at h
      split at h
      · cases hx.v_eq; cases hy.v_eq
        obtain ⟨u, hu, hv⟩ := ih h (V_v _) hl'
        refine ⟨u, ?_, hv⟩
        simp only [List.foldlM_cons, Sem.run_bind, Builtin.min2, Sem.run_pure, Result.andThen_ok]
        exact hu
      · simp at h
theorem max_ok : ∀ {xs : List AV} {x a : AV} {v : Value} {vs : List Value}, maxE x xs = some a → V σ φ x v → VL σ φ xs vs →
    ∃ u, (vs.foldlM Builtin.max2 v).run P w = .ok u w ∧ V σ φ a u := by
  intro xs
  induction xs with
  | nil =>
    intro x a v vs h hx hl
    have : vs = [] := List.eq_nil_of_length_eq_zero hl.1.symm
    subst this
    unfold maxE at h
    split at h
    · simp at h; subst h; exact ⟨v, rfl, hx⟩
    · simp at h
  | cons y ys ih =>
    intro x a v vs h hx hl
    cases vs with
    | nil => have := hl.1; simp at this
    | cons vy vs =>
      have hy : V σ φ y vy := hl.2 0 y vy rfl rfl
      have hl' : VL σ φ ys vs := ⟨by have := hl.1; simpa using this, fun j c z hc hz => hl.2 (j + 1) c z (by simpa using hc) (by simpa using hz)⟩
      unfold maxE at h
      split at h
      · cases hx.v_eq; cases hy.v_eq
        obtain ⟨u, hu, hv⟩ := ih h (V_v _) hl'
        refine ⟨u, ?_, hv⟩
        simp only [List.foldlM_cons, Sem.run_bind, Builtin.max2, Sem.run_pure, Result.andThen_ok]
        exact hu
      · simp at h

theorem len_ok {ts : Array TypeId} {t : TypeId} {x : AV} {v : Value} (h : (lenE P get ts x).get = some out) (hx : V σ φ x v) (hR : R κ σ φ get w) :
    Pur P σ φ w (Builtin.len_ ts t #[v]) out := by
  unfold lenE at h
  split at h
  · rename_i tt htt
    have e : ∀ d, P.underlying tt = some d → ∀ u : Value, (match d, v with
        | .string, .string s => (pure (goInt s.size) : Sem Value)
        | .array n _, _ => pure (goInt n)
        | .slice _, .slice _ n _ => pure (goInt n)
        | .map _ _, .map none => pure (goInt 0)
        | _, _ => stuck "").run P w = .ok u w → (Builtin.len_ ts t #[v]).run P w = .ok u w := by
      intro d hu u hr
      unfold Builtin.len_
      simp only [htt, show (#[v] : Array Value)[0]? = some v from rfl, Sem.run_bind, run_underlying hu, Result.andThen_ok]
      cases d <;> cases v <;> simp_all
      all_goals (rename_i a; cases a <;> simp_all)
    split at h
    · rename_i hu; obtain rfl := get_one h; cases hx.v_eq
      exact ⟨_, e _ hu _ rfl, V_v _, rfl, rfl⟩
    · rename_i n el hu; obtain rfl := get_one h
      exact ⟨_, e _ hu (goInt n) (by cases v <;> rfl), V_v _, rfl, rfl⟩
    · rename_i hu; obtain rfl := get_one h; cases hx.v_eq
      exact ⟨_, e _ hu _ rfl, V_v _, rfl, rfl⟩
    · rename_i sz n f hu; obtain rfl := get_one h
      cases hx with
      | base hx =>
        cases hx with
        | sl => exact ⟨_, e _ hu _ rfl, V_v _, rfl, rfl⟩
        | slnil _ _ _ A cap hl hn ha => exact ⟨_, e _ hu _ rfl, V_v _, rfl, rfl⟩
    · rename_i i el n hu; obtain rfl := get_one h
      cases hx with
      | base hx => cases hx
      | hs => exact ⟨_, e _ hu _ rfl, V_v _, rfl, rfl⟩
      | hsnil A _ _ hn => subst hn; exact ⟨_, e _ hu _ rfl, V_v _, rfl, rfl⟩
    · rename_i hu; obtain rfl := get_one h; cases hx.v_eq
      exact ⟨_, e _ hu _ rfl, V_v _, rfl, rfl⟩
    · rename_i i hu
      split at h
      · rename_i key n has val hg
        obtain rfl := get_one h
        cases hx with
        | base hx => cases hx
        | @map _ L hL hr =>
          obtain ⟨es, clock, hh, hn, _⟩ := hR.obj i _ L hg hL hr
          refine ⟨_, ?_, V_v (.int .i64 (n : Int)), rfl, rfl⟩
          have hgo : (getObj L.b).run P w = .ok (.map es clock) w := by simp [getObj, Sem.run, hh]
          unfold Builtin.len_
          simp [htt, run_underlying hu, hgo, hn, goInt]
      · simp [Tree.get] at h
    · simp [Tree.get] at h
  · simp [Tree.get] at h

/-! ### slices -/
theorem bound_run {d : Nat} {x : AV} {v : Value} {i : Int} (h : bound d (some x) = some i) (hx : V σ φ x v) : ∃ k, v = .int k i := by
  unfold bound at h
  split at h
  · rename_i e; cases e
  · rename_i e; cases e; simp at h; subst h; exact ⟨_, hx.v_eq⟩
  · simp at h
theorem run_sliceBound {v : Value} {k : IntKind} {i : Int} {y : Nat} {code : BoundsCode} (hv : v = .int k i) (h0 : 0 ≤ i) (h1 : i ≤ y) : (Instr.sliceBound v y code).run P w = .ok i.toNat w := by
  subst hv
  simp [Instr.sliceBound, asIntOf, h0, h1]
def VO (σ : Store) (φ : Places) : Option AV → Option Value → Prop
  | none, none => True
  | some x, some v => V σ φ x v
  | _, _ => False
theorem run_sliceBounds {isSlice : Bool} {len cap : Nat} {lo hi : Option AV} {vl vh : Option Value} {l h : Int} (hl : bound 0 lo = some l) (hh : bound len hi = some h)
    (vl_ok : VO σ φ lo vl) (vh_ok : VO σ φ hi vh) (h0 : 0 ≤ l) (h1 : l ≤ h) (h2 : h ≤ cap) :
    (Instr.sliceBounds isSlice len cap vl vh none).run P w = .ok (l.toNat, h.toNat, cap) w := by
  cases hi with
  | none =>
    cases vh with
    | some _ => exact vh_ok.elim
    | none =>
      simp [bound] at hh; subst hh
      cases lo with
      | none =>
        cases vl with
        | some _ => exact vl_ok.elim
        | none => simp [bound] at hl; subst hl; simp [Instr.sliceBounds]
      | some x =>
        cases vl with
        | none => exact vl_ok.elim
        | some v =>
          obtain ⟨k, hv⟩ := bound_run hl vl_ok
          have := run_sliceBound (P := P) (w := w) (code := .sliceB) hv h0 h1
          simp [Instr.sliceBounds, this]
  | some y =>
    cases vh with
    | none => exact vh_ok.elim
    | some u =>
      obtain ⟨k', hu⟩ := bound_run hh vh_ok
      have hr := fun code => run_sliceBound (P := P) (w := w) (code := code) (y := cap) hu (by omega : 0 ≤ h) h2
      cases lo with
      | none =>
        cases vl with
        | some _ => exact vl_ok.elim
        | none => simp [bound] at hl; subst hl; simp [Instr.sliceBounds, hr]
      | some x =>
        cases vl with
        | none => exact vl_ok.elim
        | some v =>
          obtain ⟨k, hv⟩ := bound_run hl vl_ok
          have := run_sliceBound (P := P) (w := w) (code := .sliceB) (y := h.toNat) hv h0 (by omega)
          simp [Instr.sliceBounds, this, hr]
end
end Go.Eng
