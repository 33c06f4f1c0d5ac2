/- A loop that is unrolled: its own rounds are its summary. -/
import Derived.Test.YtnpfcaecaflfbaaDoorEngZ
namespace Go.Eng
open Go
set_option linter.unusedSimpArgs false
set_option linter.unusedVariables false
section
variable {P : Program} {Γ : Nat → AV} {ip : Bool} {m : Nat} {T : List (CT P Γ)}
/-- the way that is taken, alone -/
def Tree.flat {α : Type} (t : Tree α) : Tree α := match t.get with
  | some a => .leaf a
  | none => .fail
theorem Tree.flat_get {α : Type} {t : Tree α} : t.flat.get = t.get := by
  unfold Tree.flat
  split
  · rename_i h; rw [h]; rfl
  · rename_i h; rw [h]; rfl
def unrollE (T : List (CT P Γ)) (L : Nat → LSpec) (ip : Bool) (m k : Nat) (b : Code) (live : List Nat) (nils : List (Nat × TypeId)) (N : Nat) : Nat → List AV → Heap → Tree Out
  | 0, _, _ => .fail
  | j + 1, vals, H => (roundE T L ip m k b live nils N vals H).bind fun r => match r.ex with
    | .normal => unrollE T L ip m k b live nils N j r.fr r.H
    | _ => .leaf r
/-- at most n rounds; 'c': all conditions are closed -/
def LSpec.unroll (c : Bool) (n : Nat) (T : List (CT P Γ)) (L : Nat → LSpec) (ip : Bool) (m k : Nat) (b : Code) (live : List Nat) (nils : List (Nat × TypeId)) (N : Nat) : LSpec :=
  ⟨live, nils, fun vals H => match c with
    | true => (unrollE T L ip m k b live nils N n vals H).flat
    | false => unrollE T L ip m k b live nils N n vals H⟩
theorem unroll_get {c : Bool} {n : Nat} {L : Nat → LSpec} {k : Nat} {b : Code} {live : List Nat} {nils : List (Nat × TypeId)} {N : Nat} {vals : List AV} {H : Heap} :
    ((LSpec.unroll c n T L ip m k b live nils N).spec vals H).get = (unrollE T L ip m k b live nils N n vals H).get := by
  cases c
  · rfl
  · exact Tree.flat_get
theorem unroll_step {L : Nat → LSpec} {k : Nat} {b : Code} {live : List Nat} {nils : List (Nat × TypeId)} {N j : Nat} {vals : List AV} {H : Heap} {o : Out} (h : (unrollE T L ip m k b live nils N (j + 1) vals H).get = some o) :
    ∃ r, (roundE T L ip m k b live nils N vals H).get = some r ∧ (match r.ex with
      | .normal => (unrollE T L ip m k b live nils N j r.fr r.H).get = some o
      | _ => r = o) := by
  obtain ⟨r, h1, h2⟩ := Tree.get_bind_some h
  refine ⟨r, h1, ?_⟩
  cases hx : r.ex with
  | normal => rw [hx] at h2; exact h2
  | exit i => rw [hx] at h2; exact (Tree.leaf_get h2).symm
  | ret => rw [hx] at h2; exact (Tree.leaf_get h2).symm
theorem unroll_mono {L : Nat → LSpec} {k : Nat} {b : Code} {live : List Nat} {nils : List (Nat × TypeId)} {N : Nat} {o : Out} : ∀ {j : Nat} {vals : List AV} {H : Heap}, (unrollE T L ip m k b live nils N j vals H).get = some o → (unrollE T L ip m k b live nils N (j + 1) vals H).get = some o
  | 0, vals, H, h => by simp [unrollE, Tree.get] at h
  | j + 1, vals, H, h => by
    obtain ⟨r, h1, h2⟩ := unroll_step h
    have : ∀ i, (unrollE T L ip m k b live nils N (i + 1) vals H).get = (match r.ex with
      | .normal => unrollE T L ip m k b live nils N i r.fr r.H
      | _ => Tree.leaf r).get := fun i => by
      show ((roundE T L ip m k b live nils N vals H).bind _).get = _
      rw [Tree.get_bind, h1]
      rfl
    rw [this]
    cases hx : r.ex with
    | normal => rw [hx] at h2; exact unroll_mono h2
    | exit i => rw [hx] at h2; simp only at h2; subst h2; rfl
    | ret => rw [hx] at h2; simp only at h2; subst h2; rfl
theorem unroll_up {L : Nat → LSpec} {k : Nat} {b : Code} {live : List Nat} {nils : List (Nat × TypeId)} {N : Nat} {o : Out} {vals : List AV} {H : Heap} {i j : Nat} (hij : i ≤ j) (h : (unrollE T L ip m k b live nils N i vals H).get = some o) : (unrollE T L ip m k b live nils N j vals H).get = some o := by
  induction j with
  | zero => obtain rfl : i = 0 := by omega
            exact h
  | succ j ih =>
    rcases Nat.lt_or_ge j i with hl | hl
    · obtain rfl : i = j + 1 := by omega
      exact h
    · exact unroll_mono (ih hl)
theorem unroll_ok (c : Bool) (n : Nat) {L : Nat → LSpec} {k N : Nat} {b : Code} {live : List Nat} {nils : List (Nat × TypeId)}
    (hL : ∀ (j : Nat) (b' : Code), (loopBodies b)[j]? = some b' → LoopOK P Γ m N b' (L (k + j))) : LoopOK P Γ m N b (LSpec.unroll c n T L ip m k b live nils N) := by
  refine loop_ok (T := T) (ip := ip) (fun vals H => leastN fun j => ∃ o, (unrollE T L ip m k b live nils N j vals H).get = some o) hL fun vals H o h => ?_
  rw [unroll_get] at h
  have hex : ∃ j, ∃ o, (unrollE T L ip m k b live nils N j vals H).get = some o := ⟨n, o, h⟩
  obtain ⟨o', ho'⟩ := leastN_mem hex
  have hle : leastN (fun j => ∃ o, (unrollE T L ip m k b live nils N j vals H).get = some o) ≤ n := leastN_le ⟨o, h⟩
  generalize leastN (fun j => ∃ o, (unrollE T L ip m k b live nils N j vals H).get = some o) = d at ho' hle
  have e := unroll_up hle ho'
  rw [h] at e
  obtain rfl := Option.some.inj e
  match d, ho', hle with
  | 0, ho', _ => simp [unrollE, Tree.get] at ho'
  | d + 1, ho', hle =>
    obtain ⟨r, h1, h2⟩ := unroll_step ho'
    refine Tree.sat_iff.2 ⟨r, h1, ?_⟩
    unfold Owes
    cases hx : r.ex with
    | normal =>
      rw [hx] at h2
      refine ⟨r.fr, r.H, LeL.refl _, LeH.refl _, ?_, Nat.lt_succ_of_le (leastN_le ⟨o, h2⟩)⟩
      rw [unroll_get]
      exact unroll_up (by omega) h2
    | exit i => rw [hx] at h2; simp only at h2; subst h2; exact ⟨hx.symm, LeL.refl _, LeH.refl _⟩
    | ret => rw [hx] at h2; simp only at h2; subst h2; exact ⟨hx.symm, LeL.refl _, LeH.refl _⟩
/-- a function without arguments that answers true -/
def okSpec (args : List AV) (Hin : List Blk) : Tree Res := match args, Hin with
  | [], [] => .leaf { val := .v (.bool true) }
  | _, _ => .fail
def CT.fact (f : FuncId) (fn : Func) (c : Code) (T : List (CT P Γ)) (L : Nat → LSpec) (ip : Bool) (ntmps : Nat) (results : List ResultVar) (hf : P.funcs[f]? = some fn) (hb : fn.body = some c) (hr : fn.results.toList = results)
    (hnt : fn.ntmps = ntmps) (hn : (fn.name == "runtime.NumGoroutine") = false)
    (hL : ∀ (j : Nat) (b : Code), (loopBodies c)[j]? = some b → LoopOK P Γ 0 ntmps b (L j)) (val : AV) (hv : AV.le val (.v (.bool true)))
    (hs : (bodyE T L ip ntmps results c [] []).get = some ⟨val, []⟩) : CT P Γ :=
  CT.summed f fn c T L ip ntmps results okSpec hf hb hr hnt hn
    (fun args Hin r h => by
      unfold okSpec at h
      split at h
      · exact hL
      · simp [Tree.get] at h)
    (fun args Hin r h => by
      unfold okSpec at h
      split at h
      · obtain rfl := Tree.leaf_get h
        exact ⟨Nat.zero_le _, Tree.sat_iff.2 ⟨_, hs, hv, trivial⟩⟩
      · simp [Tree.get] at h)
end
end Go.Eng
