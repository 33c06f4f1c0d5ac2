/- A law's arguments opened: structs whose cells are integers, bools and texts. -/
import Derived.Test.YtnpfcaecaflfbaaDoorEngAB
namespace Go.Eng
open Go
set_option linter.unusedSimpArgs false
set_option linter.unusedVariables false
def ckFs (P : Program) (K : TypeId → Option (List Cel)) : Nat → List Field → Option (List Cel)
  | _, [] => some []
  | off, f :: fs =>
    match Nat.beq f.offset off, K f.type with
    | true, some ks => match Nat.beq (P.cellsOf f.type) ks.length, ckFs P K (off + ks.length) fs with
      | true, some r => some (ks ++ r)
      | _, _ => none
    | _, _ => none
def ckT (P : Program) : Nat → TypeId → Option (List Cel)
  | 0, _ => none
  | d + 1, t =>
    match P.underlying t with
    | some (.int k) => some [.int k]
    | some .string => some [.str]
    | some .bool => some [.bool]
    | some (.struct fs) => match ckFs P (ckT P d) 0 fs.toList with
      | some ks => match Nat.beq (P.cellsOf t) ks.length with
        | true => some ks
        | false => none
      | none => none
    | _ => none
def goodV : Cel → Value → Prop
  | .int k, v => ∃ n, v = .int k n ∧ (Lit.int k n).wf = true
  | .bool, v => ∃ b, v = .bool b
  | .str, v => ∃ s, v = .string s ∧ s.size ≤ maxLen
def GoodVs : List Cel → List Value → Prop
  | [], [] => True
  | k :: ks, v :: vs => goodV k v ∧ GoodVs ks vs
  | _, _ => False
theorem GoodVs.append : ∀ {ks ks' : List Cel} {vs vs' : List Value}, GoodVs ks vs → GoodVs ks' vs' → GoodVs (ks ++ ks') (vs ++ vs')
  | [], _, [], _, _, h => h
  | _ :: _, _, _ :: _, _, h, h' => ⟨h.1, GoodVs.append h.2 h'⟩
  | [], _, _ :: _, _, h, _ => h.elim
  | _ :: _, _, [], _, h, _ => h.elim
theorem GoodVs.len : ∀ {ks : List Cel} {vs : List Value}, GoodVs ks vs → vs.length = ks.length
  | [], [], _ => rfl
  | _ :: _, _ :: _, h => by simp [GoodVs.len h.2]
  | [], _ :: _, h => h.elim
  | _ :: _, [], h => h.elim
theorem GoodVs.cons {k : Cel} {ks : List Cel} {vs : List Value} (h : GoodVs (k :: ks) vs) : ∃ v vs', vs = v :: vs' ∧ goodV k v ∧ GoodVs ks vs' := by
  cases vs with
  | nil => exact h.elim
  | cons v vs' => exact ⟨v, vs', rfl, h.1, h.2⟩
theorem GoodVs.nil {vs : List Value} (h : GoodVs [] vs) : vs = [] := by
  cases vs with
  | nil => rfl
  | cons v vs' => exact h.elim
section
variable {H : Type} {enc : TypeId × Value → H} {P : Program} {w : World} {base : Nat} {sp : Nat → Bool} {held : Bool}
theorem mapM_head {α β : Type} {f : α → Option β} {a : α} {l : List α} {r : List β} (h : (a :: l).mapM f = some r) : ∃ b r', f a = some b ∧ l.mapM f = some r' ∧ r = b :: r' := by
  simp only [List.mapM_cons, Option.bind_eq_bind, Option.bind_eq_some_iff, Option.pure_def, Option.some.injEq] at h
  obtain ⟨b, hb, r', hr, rfl⟩ := h
  exact ⟨b, r', hb, hr, rfl⟩
theorem trod_int {fuel : Nat} {t : TypeId} {k : IntKind} {cs : List Value} {x : DataW H × List MemPlace} (hu : P.underlying t = some (.int k)) (h : DataW.trod enc P w base sp held fuel t cs = some x) : GoodVs [.int k] cs := by
  cases fuel with
  | zero => simp [DataW.trod] at h
  | succ fuel =>
    unfold DataW.trod at h
    rw [hu] at h
    match cs with
    | [] => simp at h
    | [v] =>
      cases v <;> simp at h
      rename_i k' n
      obtain ⟨⟨rfl, hw⟩, _⟩ := h
      exact ⟨⟨n, rfl, hw⟩, trivial⟩
    | _ :: _ :: _ => simp at h
theorem trod_str {fuel : Nat} {t : TypeId} {cs : List Value} {x : DataW H × List MemPlace} (hu : P.underlying t = some .string) (h : DataW.trod enc P w base sp held fuel t cs = some x) : GoodVs [.str] cs := by
  cases fuel with
  | zero => simp [DataW.trod] at h
  | succ fuel =>
    unfold DataW.trod at h
    rw [hu] at h
    match cs with
    | [] => simp at h
    | [v] =>
      cases v <;> simp at h
      exact ⟨⟨_, rfl, h.1⟩, trivial⟩
    | _ :: _ :: _ => simp at h
theorem trod_bool {fuel : Nat} {t : TypeId} {cs : List Value} {x : DataW H × List MemPlace} (hu : P.underlying t = some .bool) (h : DataW.trod enc P w base sp held fuel t cs = some x) : GoodVs [.bool] cs := by
  cases fuel with
  | zero => simp [DataW.trod] at h
  | succ fuel =>
    unfold DataW.trod at h
    rw [hu] at h
    match cs with
    | [] => simp at h
    | [v] =>
      cases v <;> simp at h
      exact ⟨⟨_, rfl⟩, trivial⟩
    | _ :: _ :: _ => simp at h
theorem trod_struct {fuel : Nat} {t : TypeId} {fs : Array Field} {cs : List Value} {x : DataW H × List MemPlace} (hu : P.underlying t = some (.struct fs)) (h : DataW.trod enc P w base sp held (fuel + 1) t cs = some x) :
    cs.length = P.cellsOf t ∧ ∃ r, (fs.toList.mapM fun f => DataW.trod enc P w base sp held fuel f.type ((cs.drop f.offset).take (P.cellsOf f.type))) = some r := by
  unfold DataW.trod at h
  rw [hu] at h
  have h' : (if cs.length = P.cellsOf t then (fs.toList.mapM fun f => DataW.trod enc P w base sp held fuel f.type ((cs.drop f.offset).take (P.cellsOf f.type))).map fun xs => (DataW.agg (xs.map (·.1)), xs.flatMap (·.2)) else none) = some x := by
    match cs with
    | [] => exact h
    | [v] => cases v <;> first | exact h | (rename_i a; cases a <;> exact h) | (rename_i a b c; cases a <;> first | exact h | (cases b <;> first | exact h | (cases c <;> exact h)))
    | _ :: _ :: _ => exact h
  split at h'
  · rename_i hl
    obtain ⟨r, hr, _⟩ := Option.map_eq_some_iff.1 h'
    exact ⟨hl, r, hr⟩
  · simp at h'
theorem trod_good : ∀ (D fuel : Nat) {t : TypeId} {cs : List Value} {x : DataW H × List MemPlace} {ks : List Cel}, DataW.trod enc P w base sp held fuel t cs = some x → ckT P D t = some ks → GoodVs ks cs := by
  intro D
  induction D with
  | zero => intro fuel t cs x ks _ h; simp [ckT] at h
  | succ D ih =>
    intro fuel t cs x ks h hk
    unfold ckT at hk
    split at hk
    · rename_i k hu
      obtain rfl := Option.some.inj hk
      exact trod_int hu h
    · rename_i hu
      obtain rfl := Option.some.inj hk
      exact trod_str hu h
    · rename_i hu
      obtain rfl := Option.some.inj hk
      exact trod_bool hu h
    · rename_i fs hu
      split at hk
      · rename_i ks' hks
        split at hk
        · rename_i hc
          obtain rfl := Option.some.inj hk
          have hc := Nat.eq_of_beq_eq_true hc
          cases fuel with
          | zero => simp [DataW.trod] at h
          | succ fuel =>
            obtain ⟨hl, r, hr⟩ := trod_struct hu h
            have key : ∀ (l : List Field) (off : Nat) (ks : List Cel) (r : List (DataW H × List MemPlace)), ckFs P (ckT P D) off l = some ks → off + ks.length = cs.length →
                (l.mapM fun f => DataW.trod enc P w base sp held fuel f.type ((cs.drop f.offset).take (P.cellsOf f.type))) = some r → GoodVs ks (cs.drop off) := by
              intro l
              induction l with
              | nil =>
                intro off ks r hk hlen _
                simp only [ckFs, Option.some.injEq] at hk
                subst hk
                rw [List.drop_of_length_le (by simp at hlen; omega)]
                exact trivial
              | cons f l ihl =>
                intro off ks r hk hlen hm
                obtain ⟨b, r', h1, h2, _⟩ := mapM_head hm
                simp only [ckFs] at hk
                split at hk
                · rename_i ks1 ho hkf
                  split at hk
                  · rename_i r2 hsz hk2
                    obtain rfl := Option.some.inj hk
                    have ho := Nat.eq_of_beq_eq_true ho
                    have hsz := Nat.eq_of_beq_eq_true hsz
                    have g1 := ih fuel h1 hkf
                    have g2 := ihl (off + ks1.length) r2 r' hk2 (by simp at hlen; omega) h2
                    rw [ho, hsz] at g1
                    have := g1.append g2
                    rwa [← List.drop_drop, List.take_append_drop] at this
                  · simp at hk
                · simp at hk
            have := key fs.toList 0 ks' r hks (by omega) hr
            simpa using this
        · simp at hk
      · simp at hk
    · simp at hk
/-- a struct's cells, as the row gives them -/
theorem open_agg {t : TypeId} {fs : Array Field} {v : Value} {r : Reach} {b0 : Nat} {d : DataW H} {ps : List MemPlace} {ks : List Cel} (D : Nat) (hu : P.underlying t = some (.struct fs)) (hk : ckT P D t = some ks)
    (hval : Value.okWide P w r b0 t v) (h : DataW.Trod enc P w base sp held t v d ps) : ∃ l, v = .agg ⟨l⟩ ∧ GoodVs ks l := by
  unfold Value.okWide at hval
  rw [hu] at hval
  obtain ⟨cs, rfl, _, _⟩ := hval
  obtain ⟨fuel, h⟩ := h
  exact ⟨cs.toList, rfl, trod_good D fuel h hk⟩
end
theorem V_agg {σ : Store} {φ : Places} {xs : List AV} {ys : List Value} (h : VL σ φ xs ys) : V σ φ (.agg xs) (.agg ⟨ys⟩) :=
  .agg (by simpa using h.1) (fun j c y hc hy => h.2 j c y hc (by simpa using hy))
theorem right_of {t : Tree Ans} (h : t.get = some ⟨.sb true, []⟩) : Right t := ⟨Tree.sat_iff.2 ⟨_, h, .sb true, trivial⟩⟩
/-- a body answers v and leaves nothing behind -/
structure Gives (t : Tree Ans) (v : AV) : Prop where
  ok : t.sat fun s => AV.le s.val v ∧ LeH s.H []
section
variable {P : Program} {Γ : Nat → AV}
def CT.val1 (f : FuncId) (fn : Func) (c : Code) (T : List (CT P Γ)) (L : Nat → LSpec) (ip : Bool) (ntmps : Nat) (results : List ResultVar) (k : IntKind) (pre : Int → Bool) (g : Int → AV) (hf : P.funcs[f]? = some fn) (hb : fn.body = some c) (hr : fn.results.toList = results)
    (hnt : fn.ntmps = ntmps) (hn : (fn.name == "runtime.NumGoroutine") = false) (hsz : 1 ≤ ntmps) (hL : ∀ (j : Nat) (b : Code), (loopBodies c)[j]? = some b → LoopOK P Γ 0 ntmps b (L j))
    (hs : ∀ a, pre a = true → Gives (bodyE T L ip ntmps results c [.v (.int k a)] []) (g a)) : CT P Γ :=
  CT.fun1 f fn c T L ip ntmps results k pre g hf hb hr hnt hn hsz hL fun a h => (hs a h).ok
def CT.val2 (f : FuncId) (fn : Func) (c : Code) (T : List (CT P Γ)) (L : Nat → LSpec) (ip : Bool) (ntmps : Nat) (results : List ResultVar) (k k' : IntKind) (pre : Int → Int → Bool) (g : Int → Int → AV) (hf : P.funcs[f]? = some fn) (hb : fn.body = some c) (hr : fn.results.toList = results)
    (hnt : fn.ntmps = ntmps) (hn : (fn.name == "runtime.NumGoroutine") = false) (hsz : 2 ≤ ntmps) (hL : ∀ (j : Nat) (b : Code), (loopBodies c)[j]? = some b → LoopOK P Γ 0 ntmps b (L j))
    (hs : ∀ a b, pre a b = true → Gives (bodyE T L ip ntmps results c [.v (.int k a), .v (.int k' b)] []) (g a b)) : CT P Γ :=
  CT.fun2 f fn c T L ip ntmps results k k' pre g hf hb hr hnt hn hsz hL fun a b h => (hs a b h).ok
end
end Go.Eng
