/- An abstract evaluator of the model's code, part W: a function's contract from its body. -/
import Derived.Test.YtnpfcaecaflfbaaDoorEngV
namespace Go.Eng
open Go
set_option linter.unusedSimpArgs false
set_option linter.unusedVariables false

section
variable {P : Program} {Γ : Nat → AV} {κ : Ctx} {m : Nat} {σ : Store} {φ : Places} {w : World} {ip : Bool} {T : List (CT P Γ)}

theorem loadVar_of_loadAt {t : TypeId} {vp v : Value} (h : (Instr.loadAt t vp).run P w = .ok v w) : (do loadVar t (← asAddr vp)).run P w = .ok v w := by
  unfold Instr.loadAt at h
  cases vp with
  | pointer A =>
    cases A with
    | some ad => simpa [Instr.sureAddr, asAddr] using h
    | none => simp [Instr.sureAddr, stuck] at h
  | _ => simp [Instr.sureAddr, stuck] at h

def resultOf (tmps : Array Value) : ResultVar → Sem Value
  | .tmp t => pure (tmps.getD t undef)
  | .cell a t => do loadVar t (← asAddr (tmps.getD a undef))

theorem resV_ok {get : Get} {fr : List AV} {a : Act} (hF : FR σ φ fr a) (hR : R κ σ φ get w) : ∀ {rs : List ResultVar} {vs : List AV}, resV P get fr rs = some vs →
    ∃ ys : List Value, (rs.mapM (resultOf a.tmps)).run P w = .ok ys w ∧ VL σ φ vs ys := by
  intro rs
  induction rs with
  | nil =>
    intro vs h
    simp only [resV, Option.some.injEq] at h
    subst h
    exact ⟨[], by simp, rfl, by simp⟩
  | cons r rs ih =>
    intro vs h
    cases r with
    | tmp t =>
      simp only [resV] at h
      split at h
      · rename_i vs' h'
        simp only [Option.some.injEq] at h
        subst h
        obtain ⟨ys, h1, h2⟩ := ih h'
        refine ⟨a.tmps.getD t undef :: ys, by simp [List.mapM_cons, resultOf, h1], ?_⟩
        exact (show VL σ φ [fr.getD t .any] [a.tmps.getD t undef] from ⟨rfl, fun j c y hc hy => by
          cases j with
          | zero => simp at hc hy; subst hc; subst hy; simpa using hF.2 t
          | succ j => simp at hc⟩).append h2
      · simp at h
    | cell p t =>
      simp only [resV] at h
      split at h
      · rename_i v vs' hv h'
        simp only [Option.some.injEq] at h
        subst h
        obtain ⟨ys, h1, h2⟩ := ih h'
        obtain ⟨y, hy, hVy⟩ := loadE_ok hv (hF.2 p) hR
        refine ⟨y :: ys, ?_, ?_⟩
        · rw [List.mapM_cons, Sem.run_bind]
          have : (resultOf a.tmps (.cell p t)).run P w = .ok y w := loadVar_of_loadAt hy
          rw [this]
          simp [h1]
        · exact (show VL σ φ [v] [y] from ⟨rfl, fun j c z hc hz => by
            cases j with
            | zero => simp at hc hz; subst hc; subst hz; exact hVy
            | succ j => simp at hc⟩).append h2
      · simp at h

theorem oneOf_V {vs : List AV} {ys : List Value} (h : VL σ φ vs ys) : V σ φ (oneOf vs) (if h : ys.toArray.size = 1 then ys.toArray[0] else .tuple ys.toArray) := by
  have hl := h.1
  match vs, ys, h, hl with
  | [], [], h, _ => exact .tup rfl (by simp)
  | [x], [y], h, _ => simpa [oneOf] using h.2 0 x y rfl rfl
  | x :: x' :: xs, y :: y' :: ys, h, _ =>
    simp only [oneOf]
    rw [dif_neg (by simp)]
    refine .tup (by simpa using h.1) fun j c z hc hz => ?_
    exact h.2 j c z hc (by simpa using hz)
  | [], _ :: _, h, hl => simp at hl
  | _ :: _, [], h, hl => simp at hl
  | [_], _ :: _ :: _, h, hl => simp at hl
  | _ :: _ :: _, [_], h, hl => simp at hl

theorem results_ok {get : Get} {fr : List AV} {a : Act} {fn : Func} {vs : List AV} (hF : FR σ φ fr a) (hR : R κ σ φ get w) (h : resV P get fr fn.results.toList = some vs) :
    ∃ v, (results fn a.tmps).run P w = .ok v w ∧ V σ φ (oneOf vs) v := by
  obtain ⟨ys, h1, h2⟩ := resV_ok hF hR h
  refine ⟨_, ?_, oneOf_V h2⟩
  have he : results fn a.tmps = (fn.results.mapM (resultOf a.tmps) >>= fun vs => pure (if h : vs.size = 1 then vs[0] else .tuple vs)) := by
    unfold results
    refine congrArg (fun x => x >>= _) (congrArg (fun g => Array.mapM g fn.results) ?_)
    funext r; cases r <;> rfl
  rw [he, Sem.run_bind, Array.mapM_eq_mapM_toList, Sem.run_map, h1]
  simp [Result.andThen]

theorem frame0_FR {n : Nat} {args : List AV} {vals : Array Value} (h : VL σ φ args vals.toList) : FR σ φ (frame0 n args) { tmps := vals ++ Array.replicate (n - vals.size) undef, defers := [] } := by
  have hl : args.length = vals.size := by simpa using h.1
  refine ⟨by simp [frame0, hl], fun t => ?_⟩
  by_cases ht : t < args.length
  · have h1 : (frame0 n args).getD t .any = args.getD t .any := by
      simp only [frame0, List.getD_eq_getElem?_getD]; rw [List.getElem?_append_left ht]
    have h2 : (vals ++ Array.replicate (n - vals.size) undef).getD t undef = vals.toList.getD t undef := by
      rw [Array.getD_eq_getD_getElem?, List.getD_eq_getElem?_getD, Array.getElem?_append_left (by omega)]; simp
    rw [h1]
    show V σ φ _ ((vals ++ Array.replicate (n - vals.size) undef).getD t undef)
    rw [h2]
    exact h.getD t undef
  · have h1 : (frame0 n args).getD t .any = .any := by
      simp only [frame0, List.getD_eq_getElem?_getD]; rw [List.getElem?_append_right (by omega)]
      rw [List.getElem?_replicate]; split <;> rfl
    rw [h1]
    exact V_any _

/-- **a function's contract from its body** -/
theorem contract_of {f : FuncId} {fn : Func} {c : Code} (hf : P.funcs[f]? = some fn) (hb : fn.body = some c) (L : Nat → LSpec) {args : List AV} {Hin : List Blk} {r : Res}
    (hL : ∀ (j : Nat) (b : Code), (loopBodies c)[j]? = some b → LoopOK P Γ Hin.length fn.ntmps b (L j)) (hsz : args.length ≤ fn.ntmps)
    (h : (bodyE T L ip fn.ntmps fn.results.toList c args Hin).sat fun s => AV.le s.val r.val ∧ LeH s.H (r.heap Hin)) : Contract P Γ f args Hin r := by
  intro σ φ w vals hG hv hn hR
  obtain ⟨s, hs, hle, hleH⟩ := Tree.sat_iff.1 h
  unfold bodyE at hs
  obtain ⟨o, ho, hs⟩ := Tree.get_bind_some hs
  refine calls_of_wp hf hb ?_
  have hI : Inv ⟨w, σ, fun b => ∃ k L, φ k = some L ∧ L.virt = false ∧ L.b = b⟩ Hin.length σ φ (frame0 fn.ntmps args) (Hin.map some) { tmps := vals ++ Array.replicate (fn.ntmps - vals.size) undef, defers := [] } w :=
    ⟨by simp, frame0_FR hv, hR, fun k hk => hn k (by simpa using hk)⟩
  have hN : (frame0 fn.ntmps args).length = fn.ntmps := by simp [frame0]; omega
  refine code_ok c 0 _ _ o σ φ _ w _ (fun j b hj => by rw [Nat.zero_add]; exact hL j b hj) ho hI hG hN ?_
  intro a' w' σ' φ' e1 e2 e3 e4 hI'
  have key : (∃ v, (results fn a'.tmps).run P w' = .ok v w' ∧ ∃ σ' φ' v', Ending.returned v = .returned v' ∧ V σ' φ' r.val v' ∧
      R ⟨w, σ, fun b => ∃ k L, φ k = some L ∧ L.virt = false ∧ L.b = b⟩ σ' φ' (getH (r.heap Hin)) w' ∧ (∀ k, k < Hin.length → φ' k = φ k) ∧ (∀ k, (r.heap Hin).length ≤ k → φ' k = none)) ∨ ∃ id, o.ex = .exit id := by
    unfold ansE at hs
    split at hs
    · rename_i id hid; exact .inr ⟨id, hid⟩
    · split at hs
      · rename_i vs hvs
        obtain ⟨v, hv1, hv2⟩ := results_ok hI'.F hI'.R hvs
        split at hs
        · rename_i v2 H2 hc
          simp only [Tree.get, Option.some.injEq] at hs
          subst hs
          obtain ⟨φ2, k1, k2, k3, k4, k5⟩ := canon_ok (ys := [v]) hc ⟨rfl, fun j c y hc hy => by
            cases j with
            | zero => simp at hc hy; subst hc; subst hy; exact hv2
            | succ j => simp at hc⟩ hI'.R
          refine .inl ⟨v, hv1, σ', φ2, v, rfl, hle.v (k2.2 0 _ _ rfl rfl), k3.le hleH.get, fun k hk => (k1 k hk).trans (e2 k hk), fun k hk => k4 k (by rw [hleH.len]; exact hk)⟩
        · simp [Tree.get] at hs
      · simp [Tree.get] at hs
  cases hex : o.ex with
  | normal =>
    rcases key with ⟨v, k1, k2⟩ | ⟨id, hid⟩
    · exact ⟨e3, v, k1, k2⟩
    · rw [hex] at hid; simp at hid
  | ret =>
    rcases key with ⟨v, k1, k2⟩ | ⟨id, hid⟩
    · exact ⟨e3, v, k1, k2⟩
    · rw [hex] at hid; simp at hid
  | exit id =>
    unfold ansE at hs
    rw [hex] at hs
    simp [Tree.get] at hs
end
end Go.Eng
