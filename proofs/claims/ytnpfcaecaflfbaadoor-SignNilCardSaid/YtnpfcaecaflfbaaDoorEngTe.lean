/- An abstract evaluator of the model's code, part Te: regions that draw their order, whose steps touch different blocks. -/
import Derived.Test.YtnpfcaecaflfbaaDoorEngTd
namespace Go.Eng
open Go
set_option linter.unusedSimpArgs false
set_option linter.unusedVariables false
set_option linter.unnecessarySimpa false

section
variable {P : Program} {Γ : Nat → AV} {κ : Ctx} {m : Nat} {σ : Store} {φ : Places} {w : World} {ip : Bool} {T : List (CT P Γ)}
theorem V0.noIds {x : AV} {v : Value} (h : V0 σ x v) : x.ids = [] := by cases h <;> simp [AV.ids]
theorem avOf_noIds {v : Value} : (avOf v).ids = [] := by
  unfold avOf
  split
  · rename_i cs
    simp only [AV.ids]
    generalize cs.toList = l
    induction l with
    | nil => rfl
    | cons a l ih => simp [AV.idsL, AV.ids, ih]
  · rfl
  · rfl
theorem opd_ids {fr : List AV} (hG : Globals Γ σ) {F : List Nat} (hf : ∀ i ∈ AV.idsL fr, i ∈ F) (x : Operand) : ∀ i ∈ (opd Γ fr x).ids, i ∈ F := by
  intro i hi
  cases x with
  | tmp t =>
    simp only [opd] at hi
    rw [List.getD_eq_getElem?_getD] at hi
    cases ht : fr[t]? with
    | none => rw [ht] at hi; simp [AV.ids] at hi
    | some c => rw [ht] at hi; exact hf i (idsL_mem fr t c ht i hi)
  | const v => simp only [opd] at hi; rw [avOf_noIds] at hi; simp at hi
  | global g => simp only [opd] at hi; rw [(hG g).noIds] at hi; simp at hi
  | func f => simp [opd, AV.ids, AV.idsL] at hi
theorem set_ids {fr : List AV} {t : Nat} {v : Value} : ∀ i ∈ AV.idsL (fr.set t (.v v)), i ∈ AV.idsL fr := by
  intro i hi
  induction fr generalizing t with
  | nil => exact hi
  | cons c fr ih =>
    cases t with
    | zero => simp only [List.set_cons_zero, AV.idsL, AV.ids, List.nil_append] at hi; simp [AV.idsL, hi]
    | succ t =>
      simp only [List.set_cons_succ, AV.idsL, List.mem_append] at hi ⊢
      rcases hi with hi | hi
      · exact .inl hi
      · exact .inr (ih hi)
theorem updGs_in : ∀ {us : List (Nat × Option Blk)} {g g' : Get} {k : Nat}, k ∈ us.map (·.1) → updGs g us k = updGs g' us k := by
  intro us
  induction us with
  | nil => intro g g' k h; simp at h
  | cons u us ih =>
    obtain ⟨i, b⟩ := u
    intro g g' k h
    simp only [updGs]
    by_cases hm : k ∈ us.map (·.1)
    · exact ih hm
    · have : k = i := by simpa [hm] using h
      subst this
      have out : ∀ {us : List (Nat × Option Blk)} {g : Get}, k ∉ us.map (·.1) → updGs g us k = g k := by
        intro us
        induction us with
        | nil => intro g _; rfl
        | cons u us ih =>
          obtain ⟨j, b⟩ := u
          intro g h
          simp only [List.map_cons, List.mem_cons, not_or] at h
          simp only [updGs]
          rw [ih h.2]
          simp [updG, h.1]
      rw [out hm, out hm]
      simp [updG]
theorem updGs_out : ∀ {us : List (Nat × Option Blk)} {g : Get} {k : Nat}, k ∉ us.map (·.1) → updGs g us k = g k := by
  intro us
  induction us with
  | nil => intro g k _; rfl
  | cons u us ih =>
    obtain ⟨j, b⟩ := u
    intro g k h
    simp only [List.map_cons, List.mem_cons, not_or] at h
    simp only [updGs]
    rw [ih h.2]
    simp [updG, h.1]
theorem mem_wrote {nb : Nat} {out : OpOut} {b : Nat} : b ∈ wroteE nb out ↔ b ∈ out.upd.map (·.1) ∨ (nb ≤ b ∧ b < nb + out.new.length) := by
  unfold wroteE
  rw [List.mem_append, List.mem_range'_1]
/-- what a step leaves alone -/
def KeepsW (H : Heap) (H' : Heap) (W : List Nat) : Prop := (∀ b, b ∉ W → getH H' b = getH H b) ∧ H.length ≤ H'.length ∧ (∀ b, H.length ≤ b → b < H'.length → b ∈ W)
theorem KeepsW.refl (H : Heap) : KeepsW H H [] := ⟨fun _ _ => rfl, Nat.le_refl _, fun b h1 h2 => by omega⟩
theorem doneE_H {s : St} {o : Oper} {out : OpOut} {nb : Nat} {ρ : Operand → AV} (hop : (opE T ip nb (getH s.H) ρ o.op).get = some out) : getH (doneE s o out).H = newGs (updGs (getH s.H) out.upd) s.H.length out.new ∧ (doneE s o out).H.length = s.H.length + out.new.length := by
  have hupd := opE_upd hop
  refine ⟨?_, ?_⟩
  · funext k
    have hl : s.H.length = (setH s.H out.upd).length := (setH_len _ _).symm
    show getH (setH s.H out.upd ++ out.new.map some) k = _
    rw [getH_append, ← hl]
    have : getH (setH s.H out.upd) = updGs (getH s.H) out.upd := by
      funext j; exact getH_set _ _ _ fun u hu => getH_lt (hupd u hu)
    rw [this]
  · show (setH s.H out.upd ++ out.new.map some).length = _
    rw [List.length_append, setH_len]; simp
theorem doneE_keepsW {s : St} {o : Oper} {out : OpOut} {nb : Nat} {ρ : Operand → AV} (hop : (opE T ip nb (getH s.H) ρ o.op).get = some out) : KeepsW s.H (doneE s o out).H (wroteE s.H.length out) := by
  obtain ⟨h1, h2⟩ := doneE_H (s := s) (o := o) hop
  refine ⟨fun b hb => ?_, by omega, fun b hb1 hb2 => mem_wrote.2 (.inr ⟨hb1, by omega⟩)⟩
  rw [mem_wrote, not_or] at hb
  rw [h1, newGs_get, if_neg hb.2, updGs_out hb.1]
theorem stepW_keeps {ops : Array Oper} {o : Oper} {s : St} {r : St × List Nat} (h : (stepW T ip ops o s).get = some r) : KeepsW s.H r.1.H r.2 := by
  have done : ∀ {fr : List AV} {e : Bool} {ρ : Operand → AV}, ((opE T ip s.H.length (getH s.H) ρ o.op).bind fun out => .leaf (doneE ⟨fr, s.H, e⟩ o out, wroteE s.H.length out)).get = some r → KeepsW s.H r.1.H r.2 := by
    intro fr e ρ he
    obtain ⟨out, ho, hd⟩ := Tree.get_bind_some he
    simp only [Tree.get, Option.some.injEq] at hd
    subst hd
    exact doneE_keepsW (s := ⟨fr, s.H, e⟩) ho
  have skip : ∀ {fr : List AV}, some ((St.mk fr s.H s.eff, []) : St × List Nat) = some r → KeepsW s.H r.1.H r.2 := by
    intro fr he
    have := Option.some.inj he
    subst this
    exact .refl _
  unfold stepW at h
  split at h
  · exact done h
  · split at h
    · split at h
      · split at h
        · split at h
          · exact done h
          · exact skip h
        · exact skip h
        · rename_i b hb
          split at h
          · cases b with
            | true => exact done h
            | false => exact skip h
          · cases b with
            | true => exact skip h
            | false => exact done h
        · simp [Tree.get] at h
      · simp [Tree.get] at h
    · simp [Tree.get] at h
theorem stepV_get {ops : Array Oper} {o : Oper} {s : St} {r : StW} (h : (stepV T ip ops o s).get = some r) : ∃ s1, (stepW T ip ops o ⟨maskF (slotsOf ops.toList o) 0 s.fr, s.H, s.eff⟩).get = some (s1, r.w) ∧ r.s = ⟨unmaskF (slotsOf ops.toList o ++ o.dst.toList) 0 s.fr s1.fr, s1.H, s1.eff⟩ ∧ r.f = footE s.H (maskF (slotsOf ops.toList o) 0 s.fr) := by
  obtain ⟨s1, h1, h2⟩ := Tree.get_bind_some h
  simp only [Tree.get, Option.some.injEq] at h2
  subst h2
  exact ⟨s1.1, h1, rfl, rfl⟩
theorem stepV_keeps {ops : Array Oper} {o : Oper} {s : St} {r : StW} (h : (stepV T ip ops o s).get = some r) : KeepsW s.H r.s.H r.w := by
  obtain ⟨s1, h1, h2, h3⟩ := stepV_get h
  rw [h2]
  exact stepW_keeps h1
theorem stepV_D {ops : Array Oper} {o : Oper} {s : St} {r : StW} (h : (stepV T ip ops o s).get = some r) : (stepD T ip ops o s).get = some r.s := by
  rw [← stepV_map, Tree.get_bind, h]; rfl
/-- a step in any heap that is the same where it looks -/
theorem stepV_ok {ops : Array Oper} {o : Oper} (ho : o ∈ ops.toList) {s : St} {r : StW} {G : Get} {a : Act} {Q : Exit → Act → World → Prop} {next : Act → World → Prop} (h : (stepV T ip ops o s).get = some r)
    (hlen : s.fr.length = a.tmps.size) (hF : ∀ t ∈ slotsOf ops.toList o, V σ φ (s.fr.getD t .any) (a.tmps.getD t undef)) (hR : R κ σ φ G w)
    (hsame : ∀ b, (∀ F, r.f = some F → b ∈ F) → G b = getH s.H b) (hn : ∀ k, s.H.length ≤ k → k < r.s.H.length → φ k = none) (hG : Globals Γ σ)
    (hK : ∀ a' w' σ' φ' G', σ.le σ' → φ.le φ' → (∀ k, φ k = none → (k < s.H.length ∨ r.s.H.length ≤ k) → φ' k = none) → a'.defers = a.defers → a'.tmps.size = a.tmps.size →
      (∀ t, o.dst ≠ some t → a'.tmps.getD t undef = a.tmps.getD t undef) → (∀ t, o.dst = some t → V σ' φ' (r.s.fr.getD t .any) (a'.tmps.getD t undef)) →
      R κ σ' φ' G' w' → (∀ b, b ∈ r.w → G' b = getH r.s.H b) → (∀ b, b ∉ r.w → G' b = G b) → next a' w') :
    if Region.wanted o (yielded ops a.tmps) then o.wp P a w next Q else next (a.put o.dst undef) w := by
  obtain ⟨s1, h1, h2, h3⟩ := stepV_get h
  have hkk := stepD_keeps (T := T) (ip := ip) ho |>.get (stepV_D h)
  have hl : s1.fr.length = s.fr.length := by
    have := hkk.1
    rw [h2] at this
    have e : (stepE T ip ops o ⟨maskF (slotsOf ops.toList o) 0 s.fr, s.H, s.eff⟩).get = some s1 := by rw [← stepW_map, Tree.get_bind, h1]; rfl
    exact ((step_keeps ho).get e).1.trans maskF_len
  have hFR : FR σ φ (maskF (slotsOf ops.toList o) 0 s.fr) a := ⟨by rw [maskF_len]; exact hlen, fun t => by
    rw [maskF_get, Nat.zero_add]
    split
    · rename_i hm'; exact hF t (memN_iff.1 hm')
    · exact V_any _⟩
  have hH1 : r.s.H = s1.H := by rw [h2]
  have hfr1 : ∀ {σ' : Store} {φ' : Places} {a' : Act}, FR σ' φ' s1.fr a' → ∀ t, o.dst = some t → V σ' φ' (r.s.fr.getD t .any) (a'.tmps.getD t undef) := fun {σ' φ' a'} hfr t ht => by
    rw [h2]
    show V σ' φ' ((unmaskF _ 0 s.fr s1.fr).getD t .any) _
    rw [unmaskF_get hl, Nat.zero_add]
    have : memN t (slotsOf ops.toList o ++ o.dst.toList) = true := memN_iff.2 (List.mem_append_right _ (by rw [ht]; simp))
    rw [this]
    exact hfr.2 t
  -- what an operation answers here
  have hloc : ∀ {fr1 : List AV}, (∀ i ∈ AV.idsL fr1, i ∈ AV.idsL (maskF (slotsOf ops.toList o) 0 s.fr)) → opE T ip s.H.length G (opd Γ fr1) o.op = opE T ip s.H.length (getH s.H) (opd Γ fr1) o.op := by
    intro fr1 hids
    cases hf : r.f with
    | none =>
      have : G = getH s.H := funext fun b => hsame b fun F hF' => by rw [hf] at hF'; simp at hF'
      rw [this]
    | some F =>
      have hreach : footE s.H (maskF (slotsOf ops.toList o) 0 s.fr) = some F := by rw [← h3, hf]
      obtain ⟨_, _, r1, r2, r3⟩ := reach_ok _ _ _ _ hreach (by simp) (fun i hi => by simp at hi) (fun i hi => by simp at hi)
      exact opE_local (get := getH s.H) (F := F) ⟨fun i hi => hsame i fun F' hF' => by rw [hf] at hF'; cases hF'; exact hi, r3⟩ (opd_ids hG fun i hi => r1 i (hids i hi))
  obtain ⟨H, eff⟩ : ∃ x : Heap × Bool, x = (s.H, s.eff) := ⟨_, rfl⟩
  have skip : ∀ {fr1 : List AV}, FR σ φ fr1 a → s1 = ⟨putF fr1 o.dst (.v undef), s.H, s.eff⟩ → r.w = [] → next (a.put o.dst undef) w := fun {fr1} hF1 e ew => by
    refine hK _ w σ φ G (Store.le_refl σ) (Places.le_refl φ) (fun k hk _ => hk) put_defers ?_ (fun t ht => put_other ht) (hfr1 ?_) hR (fun b hb => by rw [ew] at hb; simp at hb) (fun _ _ => rfl)
    · rw [← hlen, ← hl, e]; exact ((hF1.put o.dst (V_v _)).1).symm
    · rw [e]; exact hF1.put o.dst (V_v _)
  have done : ∀ {fr1 : List AV} {e : Bool}, FR σ φ fr1 a → (∀ i ∈ AV.idsL fr1, i ∈ AV.idsL (maskF (slotsOf ops.toList o) 0 s.fr)) →
      ((opE T ip s.H.length (getH s.H) (opd Γ fr1) o.op).bind fun out => .leaf (doneE ⟨fr1, s.H, e⟩ o out, wroteE s.H.length out)).get = some (s1, r.w) → o.wp P a w next Q := fun {fr1 e} hF1 hids he => by
    obtain ⟨out, hop, hd⟩ := Tree.get_bind_some he
    simp only [Tree.get, Option.some.injEq, Prod.mk.injEq] at hd
    obtain ⟨hd1, hd2⟩ := hd
    obtain ⟨g1, g2⟩ := doneE_H (s := ⟨fr1, s.H, e⟩) (o := o) hop
    rw [hd1] at g1 g2
    have hlen' : r.s.H.length = s.H.length + out.new.length := by rw [hH1]; exact g2
    refine opE_ok (get := G) (nb := s.H.length) (out := out) (by rw [hloc hids]; exact hop) (fun x => hF1.eval hG x) hR hG (fun k k1 k2 => hn k k1 (by omega)) ?_
    rintro v w' ⟨σ', φ', p1, p2, p3, p4, p5⟩
    refine hK _ w' σ' φ' _ p1 p2 (fun k hk hor => p3 k hk (by rcases hor with h | h; exact .inl h; exact .inr (by omega))) put_defers ?_ (fun t ht => put_other ht) (hfr1 ?_) p5 (fun b hb => ?_) (fun b hb => ?_)
    · have := ((hF1.mono p1 p2).put o.dst p4).1
      rw [← this]
      show _ = _
      rw [show (putF fr1 o.dst out.val).length = s1.fr.length by rw [← hd1]; rfl, hl, hlen]
    · rw [← hd1]; exact (hF1.mono p1 p2).put o.dst p4
    · rw [hH1, g1, newGs_get, newGs_get]
      rw [← hd2, mem_wrote] at hb
      split
      · rfl
      · rename_i hnn
        rcases hb with hb | hb
        · exact updGs_in hb
        · exact absurd hb hnn
    · rw [← hd2, mem_wrote, not_or] at hb
      rw [newGs_get, if_neg hb.2, updGs_out hb.1]
  unfold stepW at h1
  split at h1
  · rename_i hg
    simp only [Region.wanted, hg, if_true]
    exact done hFR (fun i hi => hi) h1
  · rename_i j want hg
    split at h1
    · rename_i oj hj
      split at h1
      · rename_i t ht
        have hvt := hFR.2 t
        split at h1
        · rename_i b hb
          simp only at hb
          rw [hb] at hvt
          have hy := yielded_of hj ht hvt.v_eq
          split at h1
          · rename_i hw
            have hw' : b = want := by simpa using hw
            simp only [Region.wanted, hg, hy, hw', beq_self_eq_true, if_true]
            exact done hFR (fun i hi => hi) h1
          · rename_i hw
            simp only [Tree.get, Option.some.injEq, Prod.mk.injEq] at h1
            have hw' : (some b == some want) = false := by simpa using hw
            simp only [Region.wanted, hg, hy, hw', Bool.false_eq_true, if_false]
            exact skip hFR h1.1.symm h1.2.symm
        · rename_i ys hb
          simp only at hb
          rw [hb] at hvt
          have hy := yielded_none hj ht hvt.v_eq
          simp only [Tree.get, Option.some.injEq, Prod.mk.injEq] at h1
          simp only [Region.wanted, hg, hy, show ((none : Option Bool) == some want) = false from rfl, Bool.false_eq_true, if_false]
          exact skip hFR h1.1.symm h1.2.symm
        · rename_i b hb
          simp only at hb
          rw [hb] at hvt
          have hvv := hvt.sb_eq
          have hy := yielded_of hj ht hvv
          have hF' : ∀ c : Bool, b = c → FR σ φ ((maskF (slotsOf ops.toList o) 0 s.fr).set t (.v (.bool c))) a := fun c e => hFR.refine (by rw [hvv, e]; exact V_v _)
          split at h1
          · cases b with
            | true =>
              simp only [Tree.get] at h1
              simp only [Region.wanted, hg, hy, beq_self_eq_true, if_true]
              exact done (hF' true rfl) set_ids h1
            | false =>
              simp only [Tree.get, Option.some.injEq, Prod.mk.injEq] at h1
              simp only [Region.wanted, hg, hy, show (some false == some true) = false from rfl, Bool.false_eq_true, if_false]
              exact skip (hF' false rfl) h1.1.symm h1.2.symm
          · cases b with
            | true =>
              simp only [Tree.get, Option.some.injEq, Prod.mk.injEq] at h1
              simp only [Region.wanted, hg, hy, show (some true == some false) = false from rfl, Bool.false_eq_true, if_false]
              exact skip (hF' true rfl) h1.1.symm h1.2.symm
            | false =>
              simp only [Tree.get] at h1
              simp only [Region.wanted, hg, hy, beq_self_eq_true, if_true]
              exact done (hF' false rfl) set_ids h1
        · simp [Tree.get] at h1
      · simp [Tree.get] at h1
    · simp [Tree.get] at h1
end
end Go.Eng
