/- A contract that evaluates a function's body, its loops unrolled. -/
import Derived.Test.YtnpfcaecaflfbaaDoorEngAA
namespace Go.Eng
open Go
set_option linter.unusedSimpArgs false
set_option linter.unusedVariables false
section
variable {P : Program} {Γ : Nat → AV}
theorem bodies_get {c : Code} : ∀ {j : Nat} {b : Code}, (loopBodies c)[j]? = some b → ∀ {i : Nat} {b' : Code}, (loopBodies b)[i]? = some b' → (loopBodies c)[j + 1 + i]? = some b' := by
  induction c with
  | seq x y ix iy =>
    intro j b hj i b' hi
    simp only [loopBodies] at hj ⊢
    rcases Nat.lt_or_ge j (loopBodies x).length with hl | hl
    · rw [List.getElem?_append_left hl] at hj
      have := ix hj hi
      rw [List.getElem?_append_left (List.getElem?_eq_some_iff.1 this).1]; exact this
    · rw [List.getElem?_append_right hl] at hj
      have := iy hj hi
      rw [List.getElem?_append_right (by omega), show j + 1 + i - (loopBodies x).length = j - (loopBodies x).length + 1 + i by omega]; exact this
  | cond cc x y ix iy =>
    intro j b hj i b' hi
    simp only [loopBodies] at hj ⊢
    rcases Nat.lt_or_ge j (loopBodies x).length with hl | hl
    · rw [List.getElem?_append_left hl] at hj
      have := ix hj hi
      rw [List.getElem?_append_left (List.getElem?_eq_some_iff.1 this).1]; exact this
    · rw [List.getElem?_append_right hl] at hj
      have := iy hj hi
      rw [List.getElem?_append_right (by omega), show j + 1 + i - (loopBodies x).length = j - (loopBodies x).length + 1 + i by omega]; exact this
  | block id x ix => intro j b hj i b' hi; exact ix hj hi
  | loop x ix =>
    intro j b hj i b' hi
    simp only [loopBodies] at hj ⊢
    cases j with
    | zero =>
      simp only [List.getElem?_cons_zero, Option.some.injEq] at hj
      subst hj
      rw [show 0 + 1 + i = i + 1 by omega, List.getElem?_cons_succ]; exact hi
    | succ j =>
      rw [List.getElem?_cons_succ] at hj
      have := ix hj hi
      rw [show j + 1 + 1 + i = (j + 1 + i) + 1 by omega, List.getElem?_cons_succ]; exact this
  | _ => intro j b hj; simp [loopBodies] at hj
@[simp] theorem le_sb_true : AV.le (.sb true) (.v (.bool true)) ↔ True := ⟨fun _ => trivial, fun _ => .sb true⟩
/-- the loops of a function, each unrolled: at most n rounds, d deep -/
def autoL (c : Bool) (n : Nat) (T : List (CT P Γ)) (ip : Bool) (m N : Nat) (bodies : List Code) : Nat → Nat → LSpec
  | 0, _ => ⟨[], [], fun _ _ => .fail⟩
  | d + 1, j => match bodies[j]? with
    | some b => LSpec.unroll c n T (autoL c n T ip m N bodies d) ip m (j + 1) b (List.range N) [] N
    | none => ⟨[], [], fun _ _ => .fail⟩
theorem fail_ok {m N : Nat} {b : Code} : LoopOK P Γ m N b ⟨[], [], fun _ _ => .fail⟩ := by
  intro vals H o h; simp [Tree.get] at h
theorem autoL_ok {cl : Bool} {n : Nat} {T : List (CT P Γ)} {ip : Bool} {m N : Nat} {c : Code} : ∀ (d j : Nat) (b : Code), (loopBodies c)[j]? = some b → LoopOK P Γ m N b (autoL cl n T ip m N (loopBodies c) d j)
  | 0, j, b, _ => fail_ok
  | d + 1, j, b, h => by
    rw [autoL, h]
    exact unroll_ok cl n fun i b' hi => autoL_ok d (j + 1 + i) b' (bodies_get h hi)
def autoSpec (cl : Bool) (n d : Nat) (T : List (CT P Γ)) (ip : Bool) (ntmps : Nat) (results : List ResultVar) (c : Code) (args : List AV) (Hin : List Blk) : Tree Res :=
  match Nat.ble args.length ntmps with
  | true => match cl with
    | true => ((bodyE T (autoL cl n T ip Hin.length ntmps (loopBodies c) d) ip ntmps results c args Hin).bind (toRes Hin.length)).flat
    | false => (bodyE T (autoL cl n T ip Hin.length ntmps (loopBodies c) d) ip ntmps results c args Hin).bind (toRes Hin.length)
  | false => .fail
/-- a function's contract by its own body, its loops unrolled; 'cl': all is closed -/
def CT.auto (cl : Bool) (n d : Nat) (T : List (CT P Γ)) (f : FuncId) (fn : Func) (c : Code) (ip : Bool) (ntmps : Nat) (results : List ResultVar) (hf : P.funcs[f]? = some fn) (hb : fn.body = some c) (hr : fn.results.toList = results) (hnt : fn.ntmps = ntmps)
    (hn : (fn.name == "runtime.NumGoroutine") = false) : CT P Γ where
  f := f
  spec := autoSpec cl n d T ip ntmps results c
  enters := callFunc_enters hf (by rw [hb]; rfl) hn
  ok := fun args Hin r h => by
    unfold autoSpec at h
    split at h
    · rename_i hl
      have hl := Nat.le_of_ble_eq_true hl
      have h : ((bodyE T (autoL cl n T ip Hin.length ntmps (loopBodies c) d) ip ntmps results c args Hin).bind (toRes Hin.length)).get = some r := by
        cases cl with
        | true => exact Tree.flat_get.symm.trans h
        | false => exact h
      obtain ⟨s, h1, h2⟩ := Tree.get_bind_some h
      obtain ⟨k1, k2⟩ := toRes_ok h2
      subst hr; subst hnt
      refine contract_of (T := T) (ip := ip) hf hb _ (autoL_ok d) hl (Tree.sat_iff.2 ⟨s, h1, ?_, ?_⟩)
      · rw [k1]; exact .refl _
      · rw [k2]; exact LeH.refl _
    · simp [Tree.get] at h
end
end Go.Eng
