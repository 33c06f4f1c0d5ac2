/- A loop by a relation: what is left of it ends so. -/
import Derived.Test.YtbjfbghmokkloaaEngAD
namespace Go.Eng
open Go
set_option linter.unusedSimpArgs false
set_option linter.unusedVariables false
section
variable {P : Program} {Γ : Nat → AV} {ip : Bool} {m : Nat} {T : List (CT P Γ)}
def OwesR (Sp : List AV → Heap → Out → Prop) (μ : List AV → Heap → Nat) (n : Nat) (o r : Out) : Prop :=
  match r.ex with
  | .normal => ∃ v2 H2, LeL r.fr v2 ∧ LeH r.H H2 ∧ Sp v2 H2 o ∧ μ v2 H2 < n
  | _ => r.ex = o.ex ∧ LeL r.fr o.fr ∧ LeH r.H o.H
open Classical in
noncomputable def relSpec (Sp : List AV → Heap → Out → Prop) (o : Out) (vals : List AV) (H : Heap) : Tree Out := .chk (decide (Sp vals H o)) (.leaf o)
open Classical in
theorem relSpec_get {Sp : List AV → Heap → Out → Prop} {o o' : Out} {vals : List AV} {H : Heap} (h : (relSpec Sp o vals H).get = some o') : o' = o ∧ Sp vals H o := by
  obtain ⟨h1, h2⟩ := Tree.chk_get h
  exact ⟨Tree.leaf_get h2, decide_eq_true_iff.1 h1⟩
open Classical in
theorem relSpec_of {Sp : List AV → Heap → Out → Prop} {o : Out} {vals : List AV} {H : Heap} (h : Sp vals H o) : (relSpec Sp o vals H).get = some o := by
  unfold relSpec
  rw [decide_eq_true_iff.2 h]; rfl
theorem loop_rel {L : Nat → LSpec} {N k : Nat} {b : Code} {ls : LSpec} (Sp : List AV → Heap → Out → Prop) (μ : List AV → Heap → Nat)
    (hL : ∀ (j : Nat) (b' : Code), (loopBodies b)[j]? = some b' → LoopOK P Γ m N b' (L (k + j)))
    (hsp : ∀ vals H o, (ls.spec vals H).get = some o → Sp vals H o)
    (hr : ∀ vals H o, Sp vals H o → (roundE T L ip m k b ls.live ls.nils N vals H).sat (OwesR Sp μ (μ vals H) o)) : LoopOK P Γ m N b ls := by
  have key : ∀ o, LoopOK P Γ m N b ⟨ls.live, ls.nils, relSpec Sp o⟩ := fun o => by
    refine loop_ok (T := T) (ip := ip) μ hL fun vals H o' h => ?_
    obtain ⟨rfl, hs⟩ := relSpec_get h
    obtain ⟨r, h1, h2⟩ := Tree.sat_iff.1 (hr vals H o' hs)
    refine Tree.sat_iff.2 ⟨r, h1, ?_⟩
    unfold OwesR at h2
    unfold Owes
    cases hx : r.ex with
    | normal =>
      rw [hx] at h2
      obtain ⟨v2, H2, k1, k2, k3, k4⟩ := h2
      exact ⟨v2, H2, k1, k2, relSpec_of k3, k4⟩
    | exit i => rw [hx] at h2; exact h2
    | ret => rw [hx] at h2; exact h2
  intro vals H o h
  exact key o vals H o (relSpec_of (hsp vals H o h))
end
end Go.Eng
