/- A law's own contract: at any of the given arguments it answers true. -/
import Derived.Test.YtnpfcaecaflfbaaDoorEngY
namespace Go.Eng
open Go
section
variable {P : Program} {Γ : Nat → AV}
open Classical in
/-- true at the given arguments -/
noncomputable def lawSpec {X : Type} (A : X → List AV) (pre : X → Prop) (args : List AV) (Hin : List Blk) : Tree Res := match Hin with
  | [] => .chk (decide (∃ x, pre x ∧ args = A x)) (.leaf { val := .v (.bool true) })
  | _ => .fail
/-- a law's body answers true and leaves nothing behind -/
structure Right (t : Tree Ans) : Prop where
  ok : t.sat fun s => AV.le s.val (.v (.bool true)) ∧ LeH s.H []
open Classical in
theorem lawSpec_get {X : Type} {A : X → List AV} {pre : X → Prop} {args : List AV} {Hin : List Blk} {r : Res} (h : (lawSpec A pre args Hin).get = some r) : Hin = [] ∧ r = { val := .v (.bool true) } ∧ ∃ x, pre x ∧ args = A x := by
  unfold lawSpec at h
  split at h
  · obtain ⟨hc, h⟩ := Tree.chk_get h
    exact ⟨rfl, Tree.leaf_get h, decide_eq_true_iff.1 hc⟩
  · simp [Tree.get] at h
noncomputable def CT.law {X : Type} (A : X → List AV) (pre : X → Prop) (f : FuncId) (fn : Func) (c : Code) (T : List (CT P Γ)) (L : Nat → LSpec) (ip : Bool) (ntmps : Nat) (results : List ResultVar) (hf : P.funcs[f]? = some fn) (hb : fn.body = some c) (hr : fn.results.toList = results)
    (hnt : fn.ntmps = ntmps) (hn : (fn.name == "runtime.NumGoroutine") = false) (hsz : ∀ x, pre x → (A x).length ≤ ntmps)
    (hL : ∀ (j : Nat) (b : Code), (loopBodies c)[j]? = some b → LoopOK P Γ 0 ntmps b (L j))
    (hs : ∀ x, pre x → Right (bodyE T L ip ntmps results c (A x) [])) : CT P Γ :=
  CT.summed f fn c T L ip ntmps results (lawSpec A pre) hf hb hr hnt hn
    (fun args Hin r h => by
      obtain ⟨rfl, rfl, x, hp, rfl⟩ := lawSpec_get h
      exact hL)
    (fun args Hin r h => by
      obtain ⟨rfl, rfl, x, hp, rfl⟩ := lawSpec_get h
      exact ⟨hsz x hp, (hs x hp).ok⟩)
open Classical in
theorem law_in {X : Type} {A : X → List AV} {pre : X → Prop} {x : X} (h : pre x) {p : Res → Prop} (hp : p { val := .v (.bool true) }) : (lawSpec A pre (A x) []).sat p := by
  unfold lawSpec
  rw [Tree.sat_chk]
  exact ⟨decide_eq_true_iff.2 ⟨x, h, rfl⟩, by rw [Tree.sat_leaf]; exact hp⟩
end
end Go.Eng
