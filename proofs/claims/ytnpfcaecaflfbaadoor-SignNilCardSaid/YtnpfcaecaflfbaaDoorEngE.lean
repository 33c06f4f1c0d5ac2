/- An abstract evaluator of the model's code, part E: operations that leave the world alone. -/
import Derived.Test.YtnpfcaecaflfbaaDoorEngD
import GoSem.Dispatch
namespace Go.Eng
open Go
set_option linter.unusedSimpArgs false
set_option linter.unusedVariables false

/-- 's' yields a value that 'out' tells, and leaves the world alone -/
def Pur (P : Program) (σ : Store) (φ : Places) (w : World) (s : Sem Value) (out : OpOut) : Prop :=
  ∃ v, s.run P w = .ok v w ∧ V σ φ out.val v ∧ out.upd = [] ∧ out.new = []

section
variable {P : Program} {σ : Store} {φ : Places} {w : World} {out : OpOut}

theorem Pur.mk {s : Sem Value} {x : AV} {v : Value} (hr : s.run P w = .ok v w) (hv : V σ φ x v) : Pur P σ φ w s { val := x } := ⟨v, hr, hv, rfl, rfl⟩
theorem get_one {x : AV} (h : (one x).get = some out) : out = { val := x } := by simp only [one, Tree.get, Option.some.injEq] at h; exact h.symm
theorem get_chk {c : Bool} {t : Tree OpOut} (h : (Tree.chk c t).get = some out) : c = true ∧ t.get = some out := by
  cases c <;> simp [Tree.get] at h; exact ⟨rfl, h⟩
theorem get_valT {x : Option AV} (h : (valT x).get = some out) : ∃ a, x = some a ∧ out = { val := a } := by
  cases x with
  | none => simp [valT, Tree.get] at h
  | some a => exact ⟨a, rfl, get_one h⟩
theorem get_mapOf {x : Option AV} (h : (Tree.map (fun a => ({ val := a } : OpOut)) (.ofOption x)).get = some out) : ∃ a, x = some a ∧ out = { val := a } := by
  cases x with
  | none => simp [Tree.map, Tree.ofOption, Tree.bind, Tree.get] at h
  | some a => refine ⟨a, rfl, ?_⟩; simpa [Tree.map, Tree.ofOption, Tree.bind, Tree.get] using h.symm

/-! ### integers, strings -/
theorem int_beq (a b : Int) : (a == b) = decide (a = b) := rfl
theorem intE_ok {op : BinOp} {k : IntKind} {a b : Int} (hs : isShift op = false) (h : (intE op k a b).get = some out) (t : TypeId) :
    Pur P σ φ w (binOp op t (.int k a) (.int k b)) out := by
  cases op <;> simp only [intE] at h <;> simp only [isShift, reduceCtorEq] at hs
  case add => obtain rfl := get_one h; exact .mk (by simp [binOp, Op.intArith]) (V_v _)
  case sub => obtain rfl := get_one h; exact .mk (by simp [binOp, Op.intArith]) (V_v _)
  case mul => obtain rfl := get_one h; exact .mk (by simp [binOp, Op.intArith]) (V_v _)
  case quo =>
    obtain ⟨hb, h⟩ := get_chk h; obtain rfl := get_one h
    have hb' : b ≠ 0 := by simpa using hb
    exact .mk (by simp [binOp, Op.intDiv, hb']) (V_v _)
  case rem =>
    obtain ⟨hb, h⟩ := get_chk h; obtain rfl := get_one h
    have hb' : b ≠ 0 := by simpa using hb
    exact .mk (by simp [binOp, Op.intDiv, hb']) (V_v _)
  case and => obtain rfl := get_one h; exact .mk (by simp [binOp, Op.intBits, bitI]) (V_v _)
  case or => obtain rfl := get_one h; exact .mk (by simp [binOp, Op.intBits, bitI]) (V_v _)
  case xor => obtain rfl := get_one h; exact .mk (by simp [binOp, Op.intBits, bitI]) (V_v _)
  case andNot => obtain rfl := get_one h; exact .mk (by simp [binOp, Op.intBits, bitI]) (V_v _)
  case eql => obtain rfl := get_one h; exact ⟨.bool (decide (a = b)), by simp [binOp, Op.intCmp, int_beq], V_sb _, rfl, rfl⟩
  case neq => obtain rfl := get_one h; exact ⟨.bool (!decide (a = b)), by simp [binOp, Op.intCmp, bne, int_beq], V_sb _, rfl, rfl⟩
  case lss => obtain rfl := get_one h; exact .mk (by simp [binOp, Op.intCmp]) (V_sb _)
  case leq => obtain rfl := get_one h; exact .mk (by simp [binOp, Op.intCmp]) (V_sb _)
  case gtr => obtain rfl := get_one h; exact .mk (by simp [binOp, Op.intCmp]) (V_sb _)
  case geq => obtain rfl := get_one h; exact .mk (by simp [binOp, Op.intCmp]) (V_sb _)

theorem run_shl {k k' : IntKind} {a b : Int} (hb : ¬ b < 0) (t : TypeId) : (binOp .shl t (.int k a) (.int k' b)).run P w = .ok (.int k (k.wrap (a * 2 ^ (min b.toNat k.bits)))) w := by
  show (Op.shift .shl k a k' b).run P w = _
  unfold Op.shift; rw [if_neg hb]; rfl
theorem run_shr {k k' : IntKind} {a b : Int} (hb : ¬ b < 0) (t : TypeId) : (binOp .shr t (.int k a) (.int k' b)).run P w = .ok (.int k (a.fdiv (2 ^ (min b.toNat k.bits)))) w := by
  show (Op.shift .shr k a k' b).run P w = _
  unfold Op.shift; rw [if_neg hb]; rfl
theorem shiftE_ok {op : BinOp} {k k' : IntKind} {a b : Int} (h : (shiftE op k a b).get = some out) (t : TypeId) :
    Pur P σ φ w (binOp op t (.int k a) (.int k' b)) out := by
  cases op <;> simp only [shiftE, Tree.get, reduceCtorEq] at h
  case shl =>
    obtain ⟨hb, h⟩ := get_chk h; obtain rfl := get_one h
    have hb' : ¬ b < 0 := by simpa using hb
    exact .mk (run_shl hb' t) (V_v _)
  case shr =>
    obtain ⟨hb, h⟩ := get_chk h; obtain rfl := get_one h
    have hb' : ¬ b < 0 := by simpa using hb
    exact .mk (run_shr hb' t) (V_v _)

theorem toList_loop (s : ByteArray) : ∀ (n i : Nat) (r : List UInt8), s.size - i = n → ByteArray.toList.loop s i r = r.reverse ++ s.data.toList.drop i := by
  intro n
  induction n with
  | zero =>
    intro i r h
    rw [ByteArray.toList.loop]
    have : ¬ i < s.size := by omega
    rw [if_neg this, List.drop_eq_nil_of_le (by rw [Array.length_toList]; exact Nat.le_of_not_lt this)]
    simp
  | succ n ih =>
    intro i r h
    rw [ByteArray.toList.loop]
    have hlt : i < s.size := by omega
    rw [if_pos hlt, ih (i + 1) _ (by omega)]
    have hd : i < s.data.toList.length := by rw [Array.length_toList]; exact hlt
    rw [List.drop_eq_getElem_cons hd]
    have : s.get! i = s.data.toList[i] := by
      have hd' : i < s.data.size := hlt
      show s.data[i]! = _
      rw [getElem!_pos s.data i hd']; simp
    simp [this]
theorem bytes_toList (s : ByteArray) : s.toList = s.data.toList := by
  rw [ByteArray.toList, toList_loop s s.size 0 [] (by omega)]
  simp
theorem byteArray_beq (a b : ByteArray) : (a == b) = decide (a = b) := by
  show (a.data == b.data) = _
  by_cases e : a = b
  · subst e; simp
  · rw [decide_eq_false e]; exact beq_eq_false_iff_ne.2 fun h => e (ByteArray.ext h)
theorem bytes_beq (a b : ByteArray) : (a.toList == b.toList) = decide (a = b) := by
  rw [bytes_toList, bytes_toList]
  by_cases h : a = b
  · subst h; simp
  · have : a.data.toList ≠ b.data.toList := fun e => h (ByteArray.ext (Array.ext' e))
    rw [decide_eq_false h]
    exact beq_eq_false_iff_ne.2 this

theorem strE_ok {op : BinOp} {a b : ByteArray} (h : (strE op a b).get = some out) (t : TypeId) :
    Pur P σ φ w (binOp op t (.string a) (.string b)) out := by
  have e1 : ∀ op, binOp op t (.string a) (.string b) = Op.stringOp op a b := by intro op; cases op <;> rfl
  rw [e1]
  unfold Op.stringOp
  rw [bytes_beq, bytes_toList, bytes_toList]
  cases op <;> simp only [strE, Tree.get, reduceCtorEq] at h
  case add =>
    obtain ⟨hb, h⟩ := get_chk h; obtain rfl := get_one h
    have hb' : ¬ ((a.size + b.size : Nat) : Int) > IntKind.i64.max := by
      have : a.size + b.size ≤ 9223372036854775807 := by simpa using hb
      have e : IntKind.i64.max = 9223372036854775807 := by decide
      rw [e]; omega
    exact .mk (by rw [Sem.run_ite, if_neg hb']; rfl) (V_v _)
  all_goals (obtain rfl := get_one h; exact .mk rfl (V_sb _))

/-! ### equality -/
def scal : SK → Value → Value → Option Bool
  | .int, .int k a, .int k' b => if k = k' then some (decide (a = b)) else none
  | .str, .string a, .string b => some (decide (a = b))
  | .bool, .bool a, .bool b => some (a == b)
  | _, _, _ => none
def scalL : List SK → List Value → List Value → Option Bool
  | [], [], [] => some true
  | k :: ks, x :: xs, y :: ys => match scal k x y, scalL ks xs ys with
    | some a, some b => some (a && b)
    | _, _ => none
  | _, _, _ => none
theorem scalL_len : ∀ {ks : List SK} {X Y : List Value} {b : Bool}, scalL ks X Y = some b → X.length = ks.length ∧ Y.length = ks.length := by
  intro ks
  induction ks with
  | nil => intro X Y b h; cases X <;> cases Y <;> simp [scalL] at h ⊢
  | cons k ks ih =>
    intro X Y b h
    cases X with
    | nil => simp [scalL] at h
    | cons x X =>
      cases Y with
      | nil => simp [scalL] at h
      | cons y Y =>
        simp only [scalL] at h
        split at h
        · rename_i h2; have := ih h2; simp [this.1, this.2]
        · simp at h
theorem scalL_append : ∀ {ks r : List SK} {X Y : List Value} {b : Bool}, scalL (ks ++ r) X Y = some b →
    ∃ b1 b2, scalL ks (X.take ks.length) (Y.take ks.length) = some b1 ∧ scalL r (X.drop ks.length) (Y.drop ks.length) = some b2 ∧ b = (b1 && b2) := by
  intro ks
  induction ks with
  | nil => intro r X Y b h; exact ⟨true, b, by simp [scalL], by simpa using h, by simp⟩
  | cons k ks ih =>
    intro r X Y b h
    cases X with
    | nil => simp [scalL] at h
    | cons x X =>
      cases Y with
      | nil => simp [scalL] at h
      | cons y Y =>
        simp only [List.cons_append, scalL] at h
        split at h
        · rename_i a c h1 h2
          obtain ⟨b1, b2, e1, e2, e3⟩ := ih h2
          refine ⟨a && b1, b2, ?_, by simpa using e2, ?_⟩
          · simp [scalL, h1, e1]
          · simp at h; rw [← h, e3, Bool.and_assoc]
        · simp at h
def vOf (P : Program) (t : TypeId) (X : List Value) : Value :=
  match P.underlying t with
  | some (.struct _) => .agg X.toArray
  | _ => X.headD (.tuple #[])
theorem kinds_agg {D : Nat} {t : TypeId} {ks : List SK} (h : kindsT P D t = some ks) :
    (∃ fs, P.underlying t = some (.struct fs) ∧ aggT P t = some true) ∨ (aggT P t = some false ∧ ks.length = 1 ∧ ∀ fs, P.underlying t ≠ some (.struct fs)) := by
  cases D with
  | zero => simp [kindsT] at h
  | succ D =>
    unfold kindsT at h
    cases hu : P.underlying t with
    | none => simp [hu] at h
    | some u =>
      rw [hu] at h
      cases u <;> simp only [reduceCtorEq, Option.some.injEq] at h
      case struct fs => exact .inl ⟨fs, rfl, by simp [aggT, hu]⟩
      all_goals (subst h; exact .inr ⟨by simp [aggT, hu], rfl, by simp⟩)
theorem run_part {D : Nat} {t : TypeId} {ks : List SK} (h : kindsT P D t = some ks) (hs : szOf P t = some ks.length) {xs : Array Value} {off : Nat}
    (hl : off + ks.length ≤ xs.size) : (part t xs off).run P w = .ok (vOf P t ((xs.toList.drop off).take ks.length)) w := by
  unfold part
  rcases kinds_agg h with ⟨fs, hu, ha⟩ | ⟨ha, hk, hu⟩
  · simp only [Sem.run_bind, run_isAgg ha, run_sizeOf hs, Result.andThen_ok, if_true, Sem.run_pure, vOf, hu]
    congr 2
    apply Array.ext'
    simp [Array.toList_extract]
  · simp only [Sem.run_bind, run_isAgg ha, Result.andThen_ok, Bool.false_eq_true, if_false]
    have hlt : off < xs.size := by omega
    rw [Array.getElem?_eq_getElem hlt]
    have : vOf P t ((xs.toList.drop off).take ks.length) = xs[off] := by
      unfold vOf
      rw [hk, List.drop_eq_getElem_cons (by simpa using hlt)]
      cases hu' : P.underlying t with
      | none => simp
      | some u => cases u <;> first | exact absurd hu' (hu _) | simp
    rw [this]; rfl
theorem equalIn_scal {D d : Nat} {t : TypeId} {k : SK} {x y : Value} {b : Bool} (hk : kindsT P (D + 1) t = some [k])
    (hs : ∀ fs, P.underlying t ≠ some (.struct fs)) (h : scal k x y = some b) : (Op.equalIn (d + 1) t x y).run P w = .ok b w := by
  unfold kindsT at hk
  cases hu : P.underlying t with
  | none => simp [hu] at hk
  | some u =>
    rw [hu] at hk
    unfold Op.equalIn
    simp only [Sem.run_bind, run_underlying hu, Result.andThen_ok]
    cases u <;> simp only [Option.some.injEq, List.cons.injEq, and_true, reduceCtorEq] at hk
    case int kk =>
      subst hk
      unfold scal at h
      split at h <;> first | exact SK.noConfusion ‹_› | skip
      all_goals try (simp at h; done)
      split at h
      · rename_i e; subst e
        simp at h; subst h
        simp [int_beq]
      · simp at h
    case string =>
      subst hk
      unfold scal at h
      split at h <;> first | exact SK.noConfusion ‹_› | skip
      all_goals try (simp at h; done)
      simp at h; subst h
      simp [byteArray_beq]
    case bool =>
      subst hk
      unfold scal at h
      split at h <;> first | exact SK.noConfusion ‹_› | skip
      all_goals try (simp at h; done)
      simp at h; subst h
      simp
    case struct fs => exact absurd hu (hs fs)
theorem equalIn_plain : ∀ (D : Nat) {t : TypeId} {ks : List SK} {d : Nat} {X Y : List Value} {b : Bool}, kindsT P D t = some ks → D ≤ d → scalL ks X Y = some b →
    (Op.equalIn d t (vOf P t X) (vOf P t Y)).run P w = .ok b w := by
  intro D
  induction D with
  | zero => intro t ks d X Y b h; simp [kindsT] at h
  | succ D ih =>
    intro t ks d X Y b h hd hb
    obtain ⟨d, rfl⟩ : ∃ e, d = e + 1 := ⟨d - 1, by omega⟩
    rcases kinds_agg h with ⟨fs, hu, _⟩ | ⟨_, hk, hu⟩
    · have hf : kindsFs P (kindsT P D) 0 fs.toList = some ks ∧ P.stoodInHeld t = false := by
        unfold kindsT at h
        rw [hu] at h
        simp only at h
        split at h
        · simp at h
        · rename_i hq; exact ⟨h, by simpa using hq⟩
      have hlen := scalL_len hb
      have loop : ∀ (body : Field → Option Bool × Unit → Sem (ForInStep (Option Bool × Unit))), (∀ (f : Field) (s : Option Bool × Unit), f.name ≠ "_" → body f s = (do
              let a ← part f.type X.toArray f.offset
              let b ← part f.type Y.toArray f.offset
              let e ← Op.equalIn d f.type a b
              if e = false then pure (ForInStep.done (some false, ())) else pure (ForInStep.yield (none, ())))) →
          ∀ (l : List Field) (off : Nat) (r : List SK) (c : Bool), kindsFs P (kindsT P D) off l = some r → off + r.length = X.length → X.length = Y.length →
          scalL r (X.drop off) (Y.drop off) = some c →
          (forIn l ((none, ()) : Option Bool × Unit) body).run P w = .ok (bif c then (none, ()) else (some false, ())) w := by
        intro body hbody
        intro l
        induction l with
        | nil =>
          intro off r c hk _ _ hc
          simp only [kindsFs, Option.some.injEq] at hk
          subst hk
          have : c = true := by
            cases hx : X.drop off <;> cases hy : Y.drop off <;> simp [scalL, hx, hy] at hc
            exact hc
          subst this
          simp
        | cons f l ihl =>
          intro off r c hk hoff hxy hc
          simp only [kindsFs] at hk
          split at hk
          · rename_i hn
            obtain ⟨hn, ho⟩ := hn
            split at hk
            · rename_i kf hkf
              split at hk
              · rename_i hsz
                split at hk
                · rename_i r' hr'
                  simp only [Option.some.injEq] at hk
                  subst hk
                  obtain ⟨c1, c2, e1, e2, e3⟩ := scalL_append hc
                  simp only [List.length_append] at hoff
                  rw [List.forIn_cons, hbody f _ hn, ho]
                  simp only [Sem.run_bind]
                  rw [run_part hkf hsz (xs := X.toArray) (by simp; omega), Result.andThen_ok, run_part hkf hsz (xs := Y.toArray) (by simp; omega), Result.andThen_ok]
                  rw [ih hkf (by omega) e1, Result.andThen_ok]
                  cases c1 with
                  | false =>
                    simp at e3; subst e3
                    simp
                  | true =>
                    simp at e3; subst e3
                    simp only [Bool.true_eq_false, if_false, Sem.run_pure, Result.andThen_ok]
                    exact ihl (off + kf.length) r' c hr' (by omega) hxy (by rw [← List.drop_drop, ← List.drop_drop]; exact e2)
                · simp at hk
              · simp at hk
            · simp at hk
          · simp at hk
      unfold Op.equalIn
      simp only [Sem.run_bind, run_underlying hu, Result.andThen_ok, run_program, hf.2, vOf, hu]
      rw [← Array.forIn_toList]
      simp only [Bool.false_eq_true, if_false]
      rw [Sem.run_bind, loop _ (fun f s h => by simp [h]) fs.toList 0 ks b hf.1 (by rw [hlen.1]; omega) (by rw [hlen.1, hlen.2]) (by simpa using hb)]
      cases b <;> rfl
    · obtain ⟨k, rfl⟩ : ∃ k, ks = [k] := by
        match ks, hk with
        | [k], _ => exact ⟨k, rfl⟩
      obtain ⟨h1, h2⟩ := scalL_len hb
      match X, Y, h1, h2, hb with
      | [x], [y], _, _, hb =>
        have : vOf P t [x] = x ∧ vOf P t [y] = y := by
          unfold vOf
          cases hu' : P.underlying t with
          | none => simp
          | some u => cases u <;> first | exact absurd hu' (hu _) | simp
        rw [this.1, this.2]
        have hb' : scal k x y = some b := by
          simp only [scalL] at hb
          split at hb
          · rename_i a c h3 h4; simp at h4; subst h4; simp at hb; rw [h3, hb]
          · simp at hb
        exact equalIn_scal h hu hb'
end
end Go.Eng
