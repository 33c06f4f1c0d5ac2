/- An abstract evaluator of the model's code, part F: more operations that leave the world alone. -/
import Derived.Test.YtnpfcaecaflfbaaDoorEngE
namespace Go.Eng
open Go
set_option linter.unusedSimpArgs false
set_option linter.unusedVariables false

section
variable {P : Program} {σ : Store} {φ : Places} {w : World} {out : OpOut}

theorem V.agg_inv {cs : List AV} {y : Value} (h : V σ φ (.agg cs) y) : ∃ ys, y = .agg ys ∧ cs.length = ys.size ∧ ∀ (j : Nat) (c : AV) (z : Value), cs[j]? = some c → ys[j]? = some z → V σ φ c z := by
  cases h with
  | base h => cases h
  | agg hl h => exact ⟨_, rfl, hl, h⟩
theorem V.tup_inv {cs : List AV} {y : Value} (h : V σ φ (.tup cs) y) : ∃ ys, y = .tuple ys ∧ cs.length = ys.size ∧ ∀ (j : Nat) (c : AV) (z : Value), cs[j]? = some c → ys[j]? = some z → V σ φ c z := by
  cases h with
  | base h => cases h
  | tup hl h => exact ⟨_, rfl, hl, h⟩

theorem cellEq_scal {k : SK} {x y : AV} {vx vy : Value} {b : Bool} (h : cellEq k x y = some b) (hx : V σ φ x vx) (hy : V σ φ y vy) : scal k vx vy = some b := by
  unfold cellEq at h
  split at h
  · cases hx.v_eq; cases hy.v_eq; exact h
  · cases hx.v_eq; cases hy.v_eq; exact h
  · cases hx.v_eq; cases hy.v_eq; exact h
  · cases hx.sb_eq; cases hy.v_eq; exact h
  · cases hx.v_eq; cases hy.sb_eq; exact h
  · cases hx.sb_eq; cases hy.sb_eq; exact h
  · simp at h
theorem cellsEq_scal : ∀ {ks : List SK} {xs ys : List AV} {X Y : List Value} {b : Bool}, cellsEq ks xs ys = some b → VL σ φ xs X → VL σ φ ys Y → scalL ks X Y = some b := by
  intro ks
  induction ks with
  | nil =>
    intro xs ys X Y b h hx hy
    cases xs <;> cases ys <;> simp [cellsEq] at h
    have e1 : X = [] := List.eq_nil_of_length_eq_zero hx.1.symm
    have e2 : Y = [] := List.eq_nil_of_length_eq_zero hy.1.symm
    subst e1; subst e2
    simp [scalL, h]
  | cons k ks ih =>
    intro xs ys X Y b h hx hy
    cases xs with
    | nil => simp [cellsEq] at h
    | cons x xs =>
      cases ys with
      | nil => simp [cellsEq] at h
      | cons y ys =>
        cases X with
        | nil => have := hx.1; simp at this
        | cons vx X =>
          cases Y with
          | nil => have := hy.1; simp at this
          | cons vy Y =>
            have hx0 : V σ φ x vx := hx.2 0 x vx (by simp) (by simp)
            have hy0 : V σ φ y vy := hy.2 0 y vy (by simp) (by simp)
            have hxs : VL σ φ xs X := ⟨by have := hx.1; simpa using this, fun j c z hc hz => hx.2 (j + 1) c z (by simpa using hc) (by simpa using hz)⟩
            have hys : VL σ φ ys Y := ⟨by have := hy.1; simpa using this, fun j c z hc hz => hy.2 (j + 1) c z (by simpa using hc) (by simpa using hz)⟩
            unfold cellsEq at h
            split at h
            · split at h
              · have e1 : X = [] := List.eq_nil_of_length_eq_zero hxs.1.symm
                have e2 : Y = [] := List.eq_nil_of_length_eq_zero hys.1.symm
                subst e1; subst e2
                simp [scalL, cellEq_scal h hx0 hy0]
              · simp at h
            · split at h
              · rename_i a c h1 h2
                simp only [scalL, cellEq_scal h1 hx0 hy0, ih h2 hxs hys]
                exact h
              · simp at h

theorem kinds_guard : ∀ (D : Nat) {t : TypeId} {ks : List SK} (d : Nat), kindsT P D t = some ks → D ≤ d → P.eqGuardType d t = false := by
  intro D
  induction D with
  | zero => intro t ks d h; simp [kindsT] at h
  | succ D ih =>
    intro t ks d h hd
    obtain ⟨d, rfl⟩ : ∃ e, d = e + 1 := ⟨d - 1, by omega⟩
    unfold kindsT at h
    unfold Program.eqGuardType
    cases hu : P.underlying t with
    | none => simp [hu] at h
    | some u =>
      rw [hu] at h
      cases u <;> simp only [reduceCtorEq, Option.some.injEq] at h <;> try rfl
      case struct fs =>
        split at h
        · simp at h
        · have : ∀ (l : List Field) (off : Nat) (r : List SK), kindsFs P (kindsT P D) off l = some r → ∀ f ∈ l, P.eqGuardType d f.type = false := by
            intro l
            induction l with
            | nil => intro off r _ f hf; simp at hf
            | cons g l ihl =>
              intro off r hk f hf
              simp only [kindsFs] at hk
              split at hk
              · split at hk
                · rename_i kf hkf
                  split at hk
                  · split at hk
                    · rename_i r' hr'
                      rcases List.mem_cons.1 hf with rfl | hf
                      · exact ih d hkf (by omega)
                      · exact ihl _ _ hr' f hf
                    · simp at hk
                  · simp at hk
                · simp at hk
              · simp at hk
          simp only [Array.any_eq_false]
          intro i hi
          have := this fs.toList 0 ks h fs[i] (by simp)
          simp [this]

theorem eqGuard_quiet {op : BinOp} {t : TypeId} {x y : Operand} {a b : Value} (h : ¬ (a = .nilIface ∧ b = .nilIface)) (h' : ∀ p q, ¬ (a = .agg p ∧ b = .agg q)) :
    (eqGuard op t x y a b).run P w = .ok () w := by
  unfold eqGuard
  generalize (!(match op with
    | .eql => true
    | .neq => true
    | _ => false)) = c
  cases c with
  | true => rfl
  | false =>
    simp only [Bool.false_eq_true, if_false]
    split
    · exact absurd ⟨rfl, rfl⟩ h
    · exact absurd ⟨rfl, rfl⟩ (h' _ _)
    · rfl
theorem eqGuard_agg {op : BinOp} {t : TypeId} {x y : Operand} {p q : Array Value} (h : P.eqGuardType P.depth t = false) : (eqGuard op t x y (.agg p) (.agg q)).run P w = .ok () w := by
  unfold eqGuard
  generalize (!(match op with
    | .eql => true
    | .neq => true
    | _ => false)) = c
  cases c with
  | true => rfl
  | false => simp [h]
theorem eqGuard_off {op : BinOp} {t : TypeId} {x y : Operand} {a b : Value} (h : op ≠ .eql ∧ op ≠ .neq) : (eqGuard op t x y a b).run P w = .ok () w := by
  unfold eqGuard
  cases op <;> simp_all

theorem depth_ge : 20 ≤ P.depth := by unfold Program.depth Made.depth; omega

theorem VL_of_agg {cs : List AV} {ys : Array Value} (hl : cs.length = ys.size) (h : ∀ (j : Nat) (c : AV) (z : Value), cs[j]? = some c → ys[j]? = some z → V σ φ c z) : VL σ φ cs ys.toList :=
  ⟨by simpa using hl, fun j c y hc hy => h j c y hc (by simpa using hy)⟩

/-- what '==' gives, and that its guard lets it by -/
theorem boolOf_V {x : AV} {v : Value} {b : Bool} (h : boolOf x = some b) (hx : V σ φ x v) : v = .bool b := by
  unfold boolOf at h
  split at h
  · simp at h; subst h; exact hx.sb_eq
  · simp at h; subst h; exact hx.v_eq
  · simp at h
theorem isPtr_V {x : AV} {v : Value} (h : isPtr x = true) (hx : V σ φ x v) : ∃ a, v = .pointer (some a) := by
  cases hx with
  | base h0 => cases h0 <;> first | exact ⟨_, rfl⟩ | simp [isPtr] at h
  | ptr _ _ => exact ⟨_, rfl⟩
  | ap _ _ => exact ⟨_, rfl⟩
  | eptr _ _ _ => exact ⟨_, rfl⟩
  | _ => simp [isPtr] at h
theorem eql_of_equalIn {t : TypeId} {vx vy : Value} {b : Bool} (h : (Op.equalIn (9999 + 1) t vx vy).run P w = .ok b w) (hn : ∀ k n k' m, ¬ (vx = .int k n ∧ vy = .int k' m))
    (hf : ∀ k n k' m, ¬ (vx = .float k n ∧ vy = .float k' m)) (hc : ∀ k n l k' m l', ¬ (vx = .complex k n l ∧ vy = .complex k' m l')) (hs : ∀ p q, ¬ (vx = .string p ∧ vy = .string q)) :
    (binOp .eql t vx vy).run P w = .ok (.bool b) w ∧ (binOp .neq t vx vy).run P w = .ok (.bool (!b)) w := by
  have h' : (Op.equal t vx vy).run P w = .ok b w := h
  constructor
  · unfold binOp
    split
    all_goals try (rename_i e _ _; cases e; done)
    all_goals try (exact absurd ⟨rfl, rfl⟩ (hn _ _ _ _))
    all_goals try (exact absurd ⟨rfl, rfl⟩ (hf _ _ _ _))
    all_goals try (exact absurd ⟨rfl, rfl⟩ (hc _ _ _ _ _ _))
    all_goals try (exact absurd ⟨rfl, rfl⟩ (hs _ _))
    all_goals first
      | (simp only [Sem.run_bind, h', Result.andThen_ok]; rfl)
      | (exfalso; simp_all; done)
  · unfold binOp
    split
    all_goals try (rename_i e _ _; cases e; done)
    all_goals try (exact absurd ⟨rfl, rfl⟩ (hn _ _ _ _))
    all_goals try (exact absurd ⟨rfl, rfl⟩ (hf _ _ _ _))
    all_goals try (exact absurd ⟨rfl, rfl⟩ (hc _ _ _ _ _ _))
    all_goals try (exact absurd ⟨rfl, rfl⟩ (hs _ _))
    all_goals first
      | (simp only [Sem.run_bind, h', Result.andThen_ok]; rfl)
      | (exfalso; simp_all; done)

theorem eqE_ok {t : TypeId} {x y : AV} {a : AV} {vx vy : Value} (h : eqE P t x y = some a) (hx : V σ φ x vx) (hy : V σ φ y vy) :
    ∃ b : Bool, (a = .sb b ∨ a = .v (.bool b)) ∧
      (∀ (op : BinOp) (ox oy : Operand), (eqGuard op t ox oy vx vy).run P w = .ok () w) ∧
      (binOp .eql t vx vy).run P w = .ok (.bool b) w ∧ (binOp .neq t vx vy).run P w = .ok (.bool (!b)) w := by
  unfold eqE at h
  split at h
  · rename_i hu
    split at h
    · rename_i b1 b2 h1 h2
      simp at h; subst h
      obtain rfl := boolOf_V h1 hx
      obtain rfl := boolOf_V h2 hy
      refine ⟨_, .inl rfl, fun _ _ _ => eqGuard_quiet (by simp) (by simp), eql_of_equalIn ?_ (by simp) (by simp) (by simp) (by simp)⟩
      unfold Op.equalIn
      simp [run_underlying hu]
    · simp at h
  · rename_i hu
    split at h
    · split at h
      · simp at h; subst h
        cases hx.v_eq; cases hy.v_eq
        refine ⟨_, .inr rfl, fun _ _ _ => eqGuard_quiet (by simp) (by simp), eql_of_equalIn ?_ (by simp) (by simp) (by simp) (by simp)⟩
        unfold Op.equalIn
        simp [run_underlying hu]
      · split at h
        · rename_i hp
          simp at h; subst h
          obtain ⟨ad, rfl⟩ := isPtr_V hp hx
          cases hy.v_eq
          refine ⟨_, .inr rfl, fun _ _ _ => eqGuard_quiet (by simp) (by simp), eql_of_equalIn ?_ (by simp) (by simp) (by simp) (by simp)⟩
          unfold Op.equalIn
          simp [run_underlying hu]
        · simp at h
    · simp at h
  · rename_i hu
    split at h
    · simp at h; subst h
      cases hx.v_eq; cases hy.v_eq
      refine ⟨_, .inr rfl, fun _ _ _ => eqGuard_quiet (by simp) (by simp), eql_of_equalIn ?_ (by simp) (by simp) (by simp) (by simp)⟩
      unfold Op.equalIn
      simp [run_underlying hu]
    · simp at h; subst h
      cases hy.v_eq
      cases hx with
      | base h0 => cases h0
      | hs _ _ _ _ _ _ =>
        refine ⟨_, .inr rfl, fun _ _ _ => eqGuard_quiet (by simp) (by simp), eql_of_equalIn ?_ (by simp) (by simp) (by simp) (by simp)⟩
        unfold Op.equalIn
        simp [run_underlying hu]
      | hsnil _ _ _ hn => simp at hn
    · simp at h; subst h
      cases hy.v_eq
      cases hx with
      | base h0 =>
        cases h0 with
        | sl _ _ _ _ _ _ _ _ _ _ _ _ =>
          refine ⟨_, .inr rfl, fun _ _ _ => eqGuard_quiet (by simp) (by simp), eql_of_equalIn ?_ (by simp) (by simp) (by simp) (by simp)⟩
          unfold Op.equalIn
          simp [run_underlying hu]
        | slnil _ _ _ A _ _ _ ha =>
          cases A with
          | none => exact absurd rfl ha
          | some a =>
            refine ⟨_, .inr rfl, fun _ _ _ => eqGuard_quiet (by simp) (by simp), eql_of_equalIn ?_ (by simp) (by simp) (by simp) (by simp)⟩
            unfold Op.equalIn
            simp [run_underlying hu]
    · simp at h
  · rename_i hu
    split at h
    · simp at h; subst h
      cases hy.v_eq
      cases hx with
      | base h0 => cases h0
      | map _ _ =>
        refine ⟨_, .inr rfl, fun _ _ _ => eqGuard_quiet (by simp) (by simp), eql_of_equalIn ?_ (by simp) (by simp) (by simp) (by simp)⟩
        unfold Op.equalIn
        simp [run_underlying hu]
    · simp at h; subst h
      cases hx.v_eq; cases hy.v_eq
      refine ⟨_, .inr rfl, fun _ _ _ => eqGuard_quiet (by simp) (by simp), eql_of_equalIn ?_ (by simp) (by simp) (by simp) (by simp)⟩
      unfold Op.equalIn
      simp [run_underlying hu]
    · simp at h
  · rename_i hu
    split at h
    · simp at h; subst h
      cases hy.v_eq
      cases hx with
      | base h0 => cases h0
      | fn _ _ _ _ =>
        refine ⟨_, .inr rfl, fun _ _ _ => eqGuard_quiet (by simp) (by simp), eql_of_equalIn ?_ (by simp) (by simp) (by simp) (by simp)⟩
        unfold Op.equalIn
        simp [run_underlying hu]
    · simp at h; subst h
      cases hx.v_eq; cases hy.v_eq
      refine ⟨_, .inr rfl, fun _ _ _ => eqGuard_quiet (by simp) (by simp), eql_of_equalIn ?_ (by simp) (by simp) (by simp) (by simp)⟩
      unfold Op.equalIn
      simp [run_underlying hu]
    · simp at h
  · rename_i fs hu
    split at h
    · rename_i xs ys
      split at h
      · rename_i ks hk
        split at h
        · rename_i b hb
          simp at h; subst h
          obtain ⟨X, rfl, hl, hX⟩ := hx.agg_inv
          obtain ⟨Y, rfl, hl', hY⟩ := hy.agg_inv
          have hsc := cellsEq_scal hb (VL_of_agg hl hX) (VL_of_agg hl' hY)
          have heq := equalIn_plain (P := P) (w := w) 20 (d := 9999 + 1) hk (by decide) hsc
          have eX : vOf P t X.toList = .agg X := by simp [vOf, hu]
          have eY : vOf P t Y.toList = .agg Y := by simp [vOf, hu]
          rw [eX, eY] at heq
          exact ⟨b, .inl rfl, fun _ _ _ => eqGuard_agg (kinds_guard 20 _ hk depth_ge), eql_of_equalIn heq (by simp) (by simp) (by simp) (by simp)⟩
        · simp at h
      · simp at h
    · simp at h
  · simp at h

theorem binE_ok {op : BinOp} {t : TypeId} {x y : AV} {vx vy : Value} {ox oy : Operand} (h : (binE P op t x y).get = some out) (hx : V σ φ x vx) (hy : V σ φ y vy) :
    Pur P σ φ w (do eqGuard op t ox oy vx vy; binOp op t vx vy) out := by
  unfold binE at h
  split at h
  · rename_i k a k' b
    cases hx.v_eq; cases hy.v_eq
    have hg : (eqGuard op t ox oy (.int k a) (.int k' b)).run P w = .ok () w := eqGuard_quiet (by simp) (by simp)
    split at h
    · obtain ⟨v, h1, h2⟩ := shiftE_ok (P := P) (σ := σ) (φ := φ) (w := w) (k' := k') h t
      exact ⟨v, by rw [Sem.run_bind, hg, Result.andThen_ok]; exact h1, h2⟩
    · rename_i hsft
      split at h
      · rename_i e; subst e
        obtain ⟨v, h1, h2⟩ := intE_ok (P := P) (σ := σ) (φ := φ) (w := w) hsft h t
        exact ⟨v, by rw [Sem.run_bind, hg, Result.andThen_ok]; exact h1, h2⟩
      · simp [Tree.get] at h
  · cases hx.v_eq; cases hy.v_eq
    obtain ⟨v, h1, h2⟩ := strE_ok (P := P) (σ := σ) (φ := φ) (w := w) h t
    exact ⟨v, by rw [Sem.run_bind, eqGuard_quiet (by simp) (by simp), Result.andThen_ok]; exact h1, h2⟩
  · split at h
    · obtain ⟨a, ha, rfl⟩ := get_mapOf h
      obtain ⟨b, hab, hg, he, _⟩ := eqE_ok (w := w) ha hx hy
      refine ⟨.bool b, by rw [Sem.run_bind, hg, Result.andThen_ok]; exact he, ?_, rfl, rfl⟩
      rcases hab with rfl | rfl
      · exact V_sb _
      · exact V_v _
    · obtain ⟨a, ha, rfl⟩ := get_mapOf h
      cases ha' : eqE P t x y with
      | none => simp [ha'] at ha
      | some a' =>
        obtain ⟨b, hab, hg, _, he⟩ := eqE_ok (w := w) ha' hx hy
        refine ⟨.bool (!b), by rw [Sem.run_bind, hg, Result.andThen_ok]; exact he, ?_, rfl, rfl⟩
        rw [ha'] at ha
        rcases hab with rfl | rfl
        · simp [notE] at ha; subst ha; exact V_sb _
        · simp [notE] at ha; subst ha; exact V_v _
    · simp [Tree.get] at h

theorem unE_ok {op : UnOp} {x : AV} {vx : Value} (h : (unE op x).get = some out) (hx : V σ φ x vx) : Pur P σ φ w (Op.unary op vx) out := by
  unfold unE at h
  split at h
  · obtain ⟨a, ha, rfl⟩ := get_mapOf h
    unfold notE at ha
    split at ha
    · simp at ha; subst ha; cases hx.sb_eq; exact .mk rfl (V_sb _)
    · simp at ha; subst ha; cases hx.v_eq; exact .mk rfl (V_v _)
    · simp at ha
  · obtain rfl := get_one h; cases hx.v_eq; exact .mk rfl (V_v _)
  · obtain rfl := get_one h; cases hx.v_eq; exact .mk rfl (V_v _)
  · simp [Tree.get] at h
end
end Go.Eng
