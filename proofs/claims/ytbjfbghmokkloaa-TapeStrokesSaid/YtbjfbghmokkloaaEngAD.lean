/- Summaries with blocks; slices of integers as arguments. -/
import Derived.Test.YtbjfbghmokkloaaEngAC
import Derived.ChangeSlices
namespace Go.Eng
open Go Go.ChangeShapes
set_option linter.unusedSimpArgs false
set_option linter.unusedVariables false
/-- a body answers v and leaves H behind -/
structure Meets (t : Tree Ans) (v : AV) (H : Heap) : Prop where
  ok : t.sat fun s => AV.le s.val v ∧ LeH s.H H
theorem Gives.meets {t : Tree Ans} {v : AV} (h : Gives t v) : Meets t v [] := ⟨h.ok⟩
section
variable {P : Program} {Γ : Nat → AV}
def CT.told (f : FuncId) (fn : Func) (c : Code) (T : List (CT P Γ)) (L : Nat → LSpec) (ip : Bool) (ntmps : Nat) (results : List ResultVar) (spec : List AV → List Blk → Tree Res) (hf : P.funcs[f]? = some fn) (hb : fn.body = some c) (hr : fn.results.toList = results)
    (hnt : fn.ntmps = ntmps) (hn : (fn.name == "runtime.NumGoroutine") = false)
    (hL : ∀ (args : List AV) (Hin : List Blk) (r : Res), (spec args Hin).get = some r → ∀ (j : Nat) (b : Code), (loopBodies c)[j]? = some b → LoopOK P Γ Hin.length ntmps b (L j))
    (hs : ∀ (args : List AV) (Hin : List Blk) (r : Res), (spec args Hin).get = some r → args.length ≤ ntmps ∧ Meets (bodyE T L ip ntmps results c args Hin) r.val (r.heap Hin)) : CT P Γ :=
  CT.summed f fn c T L ip ntmps results spec hf hb hr hnt hn hL fun args Hin r h => ⟨(hs args Hin r h).1, (hs args Hin r h).2.ok⟩
end
/-! ### slices -/
section
variable {H : Type} {enc : TypeId × Value → H} {P : Program} {w : World} {base : Nat} {sp : Nat → Bool} {held : Bool}
/-- a slice of integers, as it is read -/
theorem open_sl {t e : TypeId} {k : IntKind} {v : Value} {r : Reach} {b0 : Nat} {d : DataW H} {ps : List MemPlace} (ht : P.underlying t = some (.slice e)) (he : P.underlying e = some (.int k)) (hc : P.cellsOf e = 1)
    (hval : Value.okWide P w r b0 t v) (h : DataW.Trod enc P w base sp held t v d ps) :
    ∃ (m : Nat) (g : Nat → Int), V0 (σof w) (.sl 1 m fun i => [.v (.int k (g i))]) v ∧ (∀ i, i < m → (Lit.int k (g i)).wf = true) := by
  obtain ⟨fuel, h⟩ := h
  have hv : v = .slice none 0 0 ∨ ∃ a len cap, v = .slice (some a) len cap ∧ a.spot = none := by
    unfold Value.okWide at hval
    rw [ht] at hval
    simp only at hval
    unfold Cell.okWide at hval
    rw [ht] at hval
    unfold Cell.ok at hval
    rw [ht] at hval
    cases v with
    | slice a len cap =>
      cases a with
      | none => left; match len, cap, hval with | 0, 0, _ => rfl
      | some a => right; exact ⟨a, len, cap, rfl, hval.2.2.2.1⟩
    | _ => exact hval.elim
  rcases hv with rfl | ⟨a, len, cap, rfl, hsp⟩
  · exact ⟨0, fun _ => 0, .slnil 1 0 _ none 0 (fun _ => rfl) rfl (fun _ => rfl), fun i hi => absurd hi (Nat.not_lt_zero _)⟩
  · rcases ChangeShapes.open_ints ht he hc h with ⟨h0, _⟩ | ⟨a', len', cap', zs, h0, hb, hl, hcap, hlen, _, hcell, hwf⟩
    · have := (List.cons.inj h0).1; simp at this
    · have h1 := (List.cons.inj h0).1
      simp only [Value.slice.injEq, Option.some.injEq] at h1
      obtain ⟨rfl, rfl, rfl⟩ := h1
      have hge : len ≤ zs.length := by rw [hlen]; split <;> omega
      refine ⟨len, fun i => zs.getD i 0, ?_, fun i hi => ?_⟩
      · refine .sl 1 len _ a cap (fun e j => .int k (zs.getD e 0)) hsp hl (fun _ => rfl) (fun e j c he' hcc => ?_) (fun e j c he' hcc => rfl) (fun e j c he' hcc => ?_)
        · cases j with
          | zero =>
            have := hcell e (by omega)
            have e2 : (a.add e) = ⟨a.block, a.off + e, none⟩ := by
              unfold Addr.add
              split
              · rename_i h0; subst h0; cases a; simp at hsp ⊢; exact hsp
              · rfl
            rw [e2] at this
            simpa using σof_of this
          | succ j => simp at hcc
        · cases j with
          | zero => simp at hcc; subst hcc; exact .v _
          | succ j => simp at hcc
      · show (Lit.int k (zs.getD i 0)).wf = true
        exact hwf _ (by rw [List.getD_eq_getElem?_getD, List.getElem?_eq_getElem (by omega)]; exact List.getElem_mem _)
end
end Go.Eng
