/- An abstract evaluator of the model's code, part T: ways that meet again; code. -/
import Derived.Test.YtnpfcaecaflfbaaDoorEngS
namespace Go.Eng
open Go
set_option linter.unusedSimpArgs false
set_option linter.unusedVariables false

namespace Tree
variable {α β : Type}
def All (Q : α → Prop) : Tree α → Prop
  | leaf a => Q a
  | br _ t e => t.All Q ∧ e.All Q
  | chk _ t => t.All Q
  | fail => True
theorem All.get {Q : α → Prop} : ∀ {t : Tree α} {a : α}, t.All Q → t.get = some a → Q a := by
  intro t
  induction t with
  | leaf a => intro b h hb; simp [Tree.get] at hb; subst hb; exact h
  | br c t e iht ihe =>
    intro a h ha
    cases c with
    | false => exact ihe h.2 ha
    | true => exact iht h.1 ha
  | chk c t ih =>
    intro a h ha
    cases c with
    | false => simp [Tree.get] at ha
    | true => exact ih h ha
  | fail => intro a h ha; simp [Tree.get] at ha
theorem All.bind {Q : α → Prop} {Q' : β → Prop} {f : α → Tree β} (hf : ∀ a, Q a → (f a).All Q') : ∀ {t : Tree α}, t.All Q → (t.bind f).All Q' := by
  intro t
  induction t with
  | leaf a => exact hf a
  | br c t e iht ihe => exact fun h => ⟨iht h.1, ihe h.2⟩
  | chk c t ih => exact fun h => ih h
  | fail => exact fun _ => trivial
theorem All.triv : ∀ {t : Tree α}, t.All fun _ => True := by
  intro t
  induction t with
  | leaf a => trivial
  | br c t e iht ihe => exact ⟨iht, ihe⟩
  | chk c t ih => exact ih
  | fail => trivial
end Tree

section
variable {P : Program} {Γ : Nat → AV} {κ : Ctx} {m : Nat} {σ : Store} {φ : Places} {w : World} {ip : Bool} {T : List (CT P Γ)}

/-- what the ways through a region keep -/
def Keeps (ts : List Nat) (s s' : St) : Prop := s'.fr.length = s.fr.length ∧ (∀ k, memN k ts = false → s'.fr.getD k .any = s.fr.getD k .any) ∧ (s'.eff = false → s.eff = false ∧ s'.H = s.H)
theorem Tree.All.imp {α : Type} {Q Q' : α → Prop} (hf : ∀ a, Q a → Q' a) : ∀ {t : Tree α}, t.All Q → t.All Q' := by
  intro t
  induction t with
  | leaf a => exact hf a
  | br c t e iht ihe => exact fun h => ⟨iht h.1, ihe h.2⟩
  | chk c t ih => exact fun h => ih h
  | fail => exact fun _ => trivial
theorem Keeps.refl (ts : List Nat) (s : St) : Keeps ts s s := ⟨rfl, fun _ _ => rfl, fun h => ⟨h, rfl⟩⟩
theorem Keeps.trans {ts : List Nat} {a b c : St} (h : Keeps ts a b) (h' : Keeps ts b c) : Keeps ts a c :=
  ⟨h'.1.trans h.1, fun k hk => (h'.2.1 k hk).trans (h.2.1 k hk), fun he => let ⟨h1, h2⟩ := h'.2.2 he; let ⟨h3, h4⟩ := h.2.2 h1; ⟨h3, h2.trans h4⟩⟩
theorem putF_keep {fr : List AV} {d : Option Tmp} {x : AV} {k : Nat} (h : ∀ t, d = some t → t ≠ k) : (putF fr d x).getD k .any = fr.getD k .any := by
  cases d with
  | none => rfl
  | some t => simp only [putF]; rw [getD_set, if_neg (fun e => h t rfl e.1)]
theorem putF_len {fr : List AV} {d : Option Tmp} {x : AV} : (putF fr d x).length = fr.length := by cases d <;> simp [putF]
theorem dst_touched {ops : Array Oper} {o : Oper} {t k : Nat} (ho : o ∈ ops.toList) (ht : o.dst = some t) (hk : memN k (touched ops.toList) = false) : t ≠ k := by
  intro e
  have : memN k (touched ops.toList) = true := memN_iff.2 (by unfold touched; exact List.mem_filterMap.2 ⟨o, ho, by rw [ht, e]⟩)
  rw [this] at hk; simp at hk

theorem done_keeps {ops : Array Oper} {o : Oper} {s : St} {out : OpOut} (ho : o ∈ ops.toList) : Keeps (touched ops.toList) s (doneE s o out) := by
  refine ⟨putF_len, fun k hk => putF_keep fun t ht => dst_touched ho ht hk, fun he => ?_⟩
  simp only [doneE, Bool.or_eq_false_iff] at he
  refine ⟨he.1, ?_⟩
  have h2 := he.2
  unfold effOf at h2
  split at h2
  · rename_i hu hn
    simp [doneE, hu, hn, setH]
  · simp at h2
theorem refine_keeps {ops : Array Oper} {s : St} {j t : Nat} {oj : Oper} {x : AV} (hj : ops[j]? = some oj) (ht : oj.dst = some t) : Keeps (touched ops.toList) s ⟨s.fr.set t x, s.H, s.eff⟩ := by
  have ho : oj ∈ ops.toList := by
    have : ops.toList[j]? = some oj := by simpa using hj
    exact List.mem_of_getElem? this
  exact ⟨by simp, fun k hk => by rw [getD_set, if_neg (fun e => dst_touched ho ht hk e.1)], fun h => ⟨h, rfl⟩⟩
theorem step_keeps {ops : Array Oper} {o : Oper} {s : St} (ho : o ∈ ops.toList) : (stepE T ip ops o s).All (Keeps (touched ops.toList) s) := by
  have dn : ∀ s1 : St, Keeps (touched ops.toList) s s1 → ((opE T ip s1.H.length (getH s1.H) (opd Γ s1.fr) o.op).bind fun out => .leaf (doneE s1 o out)).All (Keeps (touched ops.toList) s) := by
    intro s1 h1
    refine Tree.All.bind (Q := fun _ => True) ?_ Tree.All.triv
    intro out _
    exact h1.trans (done_keeps ho)
  have sk : ∀ s1 : St, Keeps (touched ops.toList) s s1 → Keeps (touched ops.toList) s ⟨putF s1.fr o.dst (.v undef), s1.H, s1.eff⟩ := fun s1 h1 =>
    h1.trans ⟨putF_len, fun k hk => putF_keep fun t ht => dst_touched ho ht hk, fun h => ⟨h, rfl⟩⟩
  unfold stepE
  split
  · exact dn s (Keeps.refl _ _)
  · split
    · rename_i oj hj
      split
      · rename_i t ht
        split
        · split
          · exact dn s (Keeps.refl _ _)
          · exact sk s (Keeps.refl _ _)
        · exact sk s (Keeps.refl _ _)
        · split
          · exact ⟨dn _ (refine_keeps hj ht), sk _ (refine_keeps hj ht)⟩
          · exact ⟨sk _ (refine_keeps hj ht), dn _ (refine_keeps hj ht)⟩
        · trivial
      · trivial
    · trivial
theorem steps_keeps {ops : Array Oper} : ∀ (l : List Oper) (s : St), (∀ o ∈ l, o ∈ ops.toList) → (stepsE T ip ops l s).All (Keeps (touched ops.toList) s) := by
  intro l
  induction l with
  | nil => intro s _; exact Keeps.refl _ _
  | cons o l ih =>
    intro s h
    refine Tree.All.bind (Q := Keeps (touched ops.toList) s) (fun s1 h1 => ?_) (step_keeps (h o (by simp)))
    have := ih s1 (fun o ho => h o (by simp [ho]))
    revert this
    generalize stepsE T ip ops l s1 = t
    intro ht
    induction t with
    | leaf a => exact h1.trans ht
    | br c t e i1 i2 => exact ⟨i1 ht.1, i2 ht.2⟩
    | chk c t i => exact i ht
    | fail => trivial

theorem mixF_len : ∀ {ts : List Nat} {c : Bool} {k : Nat} {zs xs ys : List AV}, xs.length = zs.length → ys.length = zs.length → (mixF ts c k zs xs ys).length = zs.length := by
  intro ts c k zs
  induction zs generalizing k with
  | nil => intro xs ys h1 h2; simp [mixF]
  | cons z zs ih =>
    intro xs ys h1 h2
    match xs, ys, h1, h2 with
    | x :: xs, y :: ys, h1, h2 => simp only [mixF, List.length_cons]; rw [ih (by simpa using h1) (by simpa using h2)]
theorem mixF_get : ∀ {ts : List Nat} {c : Bool} {k j : Nat} {zs xs ys : List AV}, xs.length = zs.length → ys.length = zs.length → j < zs.length →
    (mixF ts c k zs xs ys).getD j .any = (match memN (k + j) ts with
      | true => mixAV c (xs.getD j .any) (ys.getD j .any)
      | false => zs.getD j .any) := by
  intro ts c k j zs
  induction zs generalizing k j with
  | nil => intro xs ys h1 h2 hj; simp at hj
  | cons z zs ih =>
    intro xs ys h1 h2 hj
    match xs, ys, h1, h2 with
    | x :: xs, y :: ys, h1, h2 =>
      cases j with
      | zero => simp only [mixF, Nat.add_zero]; cases memN k ts <;> rfl
      | succ j =>
        simp only [mixF, List.getD_cons_succ]
        rw [ih (by simpa using h1) (by simpa using h2) (by simpa using hj), show k + 1 + j = k + (j + 1) by omega]

def okG : Option Bool → Prop
  | none => True
  | some b => b = true
theorem flat_ok {ts : List Nat} {s0 : St} : ∀ {t : Tree St} {g : Option Bool} {fr : List AV}, t.All (Keeps ts s0) → flatT ts s0.fr t = some (g, fr) →
    fr.length = s0.fr.length ∧ (okG g → ∃ s, t.get = some s ∧ s.eff = false ∧ ∀ (σ : Store) (φ : Places) (k : Nat) (v : Value), V σ φ (s.fr.getD k .any) v → V σ φ (fr.getD k .any) v) := by
  intro t
  induction t with
  | leaf s =>
    intro g fr ha h
    simp only [flatT] at h
    split at h
    · simp at h
    · rename_i he
      simp only [Option.some.injEq, Prod.mk.injEq] at h
      obtain ⟨rfl, rfl⟩ := h
      exact ⟨ha.1, fun _ => ⟨s, rfl, he, fun _ _ _ _ hv => hv⟩⟩
  | chk c t ih =>
    intro g fr ha h
    simp only [flatT] at h
    split at h
    · rename_i g' fr' h'
      simp only [Option.some.injEq, Prod.mk.injEq] at h
      obtain ⟨rfl, rfl⟩ := h
      obtain ⟨h1, h2⟩ := ih ha h'
      refine ⟨h1, fun hg => ?_⟩
      have : c = true ∧ okG g' := by
        cases g' with
        | none => exact ⟨hg, trivial⟩
        | some b => simpa [andG, okG] using hg
      obtain ⟨rfl, hg'⟩ := this
      exact h2 hg'
    · simp at h
  | br c t e iht ihe =>
    intro g fr ha h
    simp only [flatT] at h
    split at h
    · rename_i g1 a g2 b h1 h2
      simp only [Option.some.injEq, Prod.mk.injEq] at h
      obtain ⟨rfl, rfl⟩ := h
      obtain ⟨l1, r1⟩ := iht ha.1 h1
      obtain ⟨l2, r2⟩ := ihe ha.2 h2
      refine ⟨mixF_len l1 l2, fun hg => ?_⟩
      have main : ∀ (s : St) (fr' : List AV), Keeps ts s0 s → (fr' = bif c then a else b) → (∀ (σ : Store) (φ : Places) (k : Nat) (v : Value), V σ φ (s.fr.getD k .any) v → V σ φ (fr'.getD k .any) v) →
          ∀ (σ : Store) (φ : Places) (k : Nat) (v : Value), V σ φ (s.fr.getD k .any) v → V σ φ ((mixF ts c 0 s0.fr a b).getD k .any) v := by
        intro s fr' hk hfr hv σ φ k v hs
        by_cases hj : k < s0.fr.length
        · rw [mixF_get l1 l2 hj, Nat.zero_add]
          split
          · have h3 := hv σ φ k v hs
            apply mix_ok
            rw [hfr] at h3
            cases c <;> exact h3
          · rename_i hm
            rw [← hk.2.1 k hm]; exact hs
        · have : (mixF ts c 0 s0.fr a b).getD k .any = .any := by
            rw [List.getD_eq_getElem?_getD, List.getElem?_eq_none (by rw [mixF_len l1 l2]; omega)]; rfl
          rw [this]; exact V_any v
      cases c with
      | true =>
        have hg1 : okG g1 := by cases g1 <;> cases g2 <;> simp_all [iteG, okG]
        obtain ⟨s, h3, h4, h5⟩ := r1 hg1
        exact ⟨s, h3, h4, main s a (ha.1.get h3) rfl h5⟩
      | false =>
        have hg2 : okG g2 := by cases g1 <;> cases g2 <;> simp_all [iteG, okG]
        obtain ⟨s, h3, h4, h5⟩ := r2 hg2
        exact ⟨s, h3, h4, main s b (ha.2.get h3) rfl h5⟩
    · simp at h
  | fail => intro g fr ha h; simp [flatT] at h

theorem merge_ok {ts : List Nat} {s0 : St} {t : Tree St} {s' : St} (ha : t.All (Keeps ts s0)) (h : (mergeT ts s0.fr s0.H t).get = some s') :
    ∃ s, t.get = some s ∧ ∀ (κ : Ctx) (m : Nat) (σ : Store) (φ : Places) (a : Act) (w : World), Inv κ m σ φ s.fr s.H a w → Inv κ m σ φ s'.fr s'.H a w := by
  have flat : ∀ g fr, flatT ts s0.fr t = some (g, fr) → okG g → ∃ s, t.get = some s ∧ ∀ (κ : Ctx) (m : Nat) (σ : Store) (φ : Places) (a : Act) (w : World), Inv κ m σ φ s.fr s.H a w → Inv κ m σ φ fr s0.H a w := by
    intro g fr hf hg
    obtain ⟨hl, hr⟩ := flat_ok ha hf
    obtain ⟨s, h1, h2, h3⟩ := hr hg
    have hk := ha.get h1
    obtain ⟨_, hH⟩ := hk.2.2 h2
    refine ⟨s, h1, fun κ m σ φ a w hI => ⟨by rw [← hH]; exact hI.len, ⟨by rw [hl, ← hk.1]; exact hI.F.1, fun k => h3 _ _ _ _ (hI.F.2 k)⟩, by rw [← hH]; exact hI.R, by rw [← hH]; exact hI.none⟩⟩
  unfold mergeT at h
  split at h
  · simp only [Tree.get, Option.some.injEq] at h
    subst h
    exact ⟨_, rfl, fun _ _ _ _ _ _ hI => hI⟩
  · split at h
    · rename_i fr hf
      simp only [Tree.get, Option.some.injEq] at h
      subst h
      exact flat _ _ hf trivial
    · rename_i g fr hf
      cases g with
      | true =>
        simp only [Tree.get, Option.some.injEq] at h
        subst h
        exact flat _ _ hf rfl
      | false => simp only [Tree.get, reduceCtorEq] at h
    · exact ⟨s', h, fun _ _ _ _ _ _ hI => hI⟩

theorem merge_len {ts : List Nat} {s0 : St} {t : Tree St} {s' : St} (ha : t.All (Keeps ts s0)) (h : (mergeT ts s0.fr s0.H t).get = some s') : s'.fr.length = s0.fr.length := by
  unfold mergeT at h
  split at h
  · simp only [Tree.get, Option.some.injEq] at h
    subst h
    exact (ha.get rfl).1
  · split at h
    · rename_i fr hf
      simp only [Tree.get, Option.some.injEq] at h
      subst h
      exact (flat_ok ha hf).1
    · rename_i g fr hf
      cases g with
      | true =>
        simp only [Tree.get, Option.some.injEq] at h
        subst h
        exact (flat_ok ha hf).1
      | false => simp only [Tree.get, reduceCtorEq] at h
    · exact (ha.get h).1
theorem region_len {ops : Array Oper} {fr : List AV} {H : Heap} {s' : St} (h : (regionE T ip ops fr H).get = some s') : s'.fr.length = fr.length :=
  merge_len (s0 := ⟨fr, H, false⟩) (steps_keeps (T := T) (ip := ip) (ops := ops) ops.toList ⟨fr, H, false⟩ (fun o ho => ho)) h
theorem maskF_len {ss : List Nat} : ∀ {fr : List AV} {k : Nat}, (maskF ss k fr).length = fr.length
  | [], _ => rfl
  | x :: xs, k => by simp [maskF, maskF_len (fr := xs)]
theorem maskF_get {ss : List Nat} : ∀ {fr : List AV} {k j : Nat}, (maskF ss k fr).getD j .any = (match memN (k + j) ss with | true => fr.getD j .any | false => .any)
  | [], k, j => by simp only [maskF, List.getD_nil]; cases memN (k + j) ss <;> rfl
  | x :: xs, k, 0 => by simp only [maskF, Nat.add_zero, List.getD_cons_zero]; cases memN k ss <;> rfl
  | x :: xs, k, j + 1 => by
    have := maskF_get (ss := ss) (fr := xs) (k := k + 1) (j := j)
    rw [show k + 1 + j = k + (j + 1) by omega] at this
    simpa [maskF] using this
theorem unmaskF_len {ss : List Nat} : ∀ {fr fr' : List AV} {k : Nat}, fr'.length = fr.length → (unmaskF ss k fr fr').length = fr.length
  | [], [], _, _ => rfl
  | x :: xs, y :: ys, k, h => by simp [unmaskF, unmaskF_len (fr := xs) (fr' := ys) (by simpa using h)]
  | [], _ :: _, _, h => by simp at h
  | _ :: _, [], _, h => by simp at h
theorem unmaskF_get {ss : List Nat} : ∀ {fr fr' : List AV} {k j : Nat}, fr'.length = fr.length → (unmaskF ss k fr fr').getD j .any = (match memN (k + j) ss with | true => fr'.getD j .any | false => fr.getD j .any)
  | [], [], k, j, _ => by simp only [unmaskF, List.getD_nil]; cases memN (k + j) ss <;> rfl
  | x :: xs, y :: ys, k, 0, _ => by
    simp only [unmaskF, Nat.add_zero, List.getD_cons_zero]; cases memN k ss <;> rfl
  | x :: xs, y :: ys, k, j + 1, h => by
    have := unmaskF_get (ss := ss) (fr := xs) (fr' := ys) (k := k + 1) (j := j) (by simpa using h)
    rw [show k + 1 + j = k + (j + 1) by omega] at this
    simpa [unmaskF] using this
  | [], _ :: _, _, _, h => by simp at h
  | _ :: _, [], _, _, h => by simp at h
theorem stepD_keeps {ops : Array Oper} {o : Oper} {s : St} (ho : o ∈ ops.toList) : (stepD T ip ops o s).All (Keeps (touched ops.toList) s) := by
  refine Tree.All.bind (fun s' hs' => ?_) (step_keeps (T := T) (ip := ip) (s := ⟨maskF (slotsOf ops.toList o) 0 s.fr, s.H, s.eff⟩) ho)
  obtain ⟨h1, h2, h3⟩ := hs'
  have hl : s'.fr.length = s.fr.length := h1.trans maskF_len
  refine ⟨unmaskF_len hl, fun k hk => ?_, h3⟩
  show (unmaskF _ 0 s.fr s'.fr).getD k .any = _
  rw [unmaskF_get hl, Nat.zero_add]
  split
  · rename_i hm
    have h2' : s'.fr.getD k .any = (maskF (slotsOf ops.toList o) 0 s.fr).getD k .any := h2 k hk
    rw [h2', maskF_get, Nat.zero_add]
    have hin : k ∈ slotsOf ops.toList o := by
      rcases List.mem_append.1 (memN_iff.1 hm) with h | h
      · exact h
      · cases hd : o.dst with
        | none => rw [hd] at h; simp at h
        | some t =>
          rw [hd] at h
          have e : k = t := by simpa using h
          subst e
          exact absurd rfl (dst_touched ho hd hk)
    rw [memN_iff.2 hin]
  · rfl
/-- each step of a region that draws keeps -/
def KeepsX (ts : List Nat) : List AV → Heap → List St → Prop
  | _, _, [] => True
  | fr, H, s :: R => Keeps ts ⟨fr, H, false⟩ s ∧ KeepsX ts s.fr s.H R
theorem stepsX_keeps {ops : Array Oper} : ∀ (l : List Oper) (fr : List AV) (H : Heap), (∀ o ∈ l, o ∈ ops.toList) → (stepsX T ip ops l fr H).All (KeepsX (touched ops.toList) fr H) := by
  intro l
  induction l with
  | nil => intro fr H _; exact trivial
  | cons o l ih =>
    intro fr H hl
    refine Tree.All.bind (fun s' hs' => ?_) (stepD_keeps (hl o (by simp)))
    refine Tree.All.bind (fun R hR => ?_) (ih s'.fr s'.H fun o' ho' => hl o' (by simp [ho']))
    exact ⟨hs', hR⟩
theorem lastX_keeps {ts : List Nat} : ∀ {R : List St} {fr : List AV} {H : Heap} {k c : Nat}, KeepsX ts fr H R → (lastX fr H R).1.length = fr.length ∧ (∀ k, memN k ts = false → (lastX fr H R).1.getD k .any = fr.getD k .any) ∧ (writes k c R = [] → (lastX fr H R).2 = H)
  | [], fr, H, k, c, _ => ⟨rfl, fun _ _ => rfl, fun _ => rfl⟩
  | s :: R, fr, H, k, c, h => by
    obtain ⟨⟨h1, h2, h3⟩, hR⟩ := h
    obtain ⟨i1, i2, i3⟩ := lastX_keeps (k := k + 1) (c := c) hR
    refine ⟨i1.trans h1, fun k' hk => (i2 k' hk).trans (h2 k' hk), fun hw => ?_⟩
    simp only [writes] at hw
    split at hw
    · simp at hw
    · rename_i he
      exact (i3 hw).trans (h3 he).2
theorem endX_keeps {ops : Array Oper} {fr : List AV} {H : Heap} {R : List St} (h : KeepsX (touched ops.toList) fr H R) : (endX T ip ops fr H R).All (Keeps (touched ops.toList) ⟨fr, H, false⟩) := by
  obtain ⟨h1, h2, h3⟩ := lastX_keeps (k := 0) (c := 0) h
  unfold endX
  split
  · rename_i hw
    exact ⟨h1, h2, fun _ => ⟨rfl, h3 hw⟩⟩
  · exact ⟨h1, h2, fun he => by simp at he⟩
theorem drawX_keeps {ops : Array Oper} {fr : List AV} {H : Heap} : ((stepsX T ip ops ops.toList fr H).bind fun R => endX T ip ops fr H R).All (Keeps (touched ops.toList) ⟨fr, H, false⟩) :=
  Tree.All.bind (fun R hR => endX_keeps hR) (stepsX_keeps (T := T) (ip := ip) (ops := ops) ops.toList fr H (fun o ho => ho))
theorem region_ok {ops : Array Oper} {id : Nat} {fr : List AV} {H : Heap} {s' : St} {a : Act} {Q : Exit → Act → World → Prop} (h : (regionE T ip ops fr H).get = some s') (hI : Inv κ m σ φ fr H a w) (hG : Globals Γ σ)
    (hQ : ∀ a' w' σ' φ', σ.le σ' → (∀ k, k < m → φ' k = φ k) → a'.defers = a.defers → Inv κ m σ' φ' s'.fr s'.H a' w' → Q .normal a' w') : (Code.region id ops false).wp P Q a w := by
  have ha := steps_keeps (T := T) (ip := ip) (ops := ops) ops.toList ⟨fr, H, false⟩ (fun o ho => ho)
  obtain ⟨s, h1, h2⟩ := merge_ok (s0 := ⟨fr, H, false⟩) ha h
  refine wp_region ?_
  have := steps_ok (Q := Q) ops.toList 0 ⟨fr, H, false⟩ s a w σ φ (fun j => by simp) (by simp) h1 hI hG (fun a' w' σ' φ' e1 e2 e3 hI' => hQ a' w' σ' φ' e1 e2 e3 (h2 _ _ _ _ _ _ hI'))
  simpa [List.range_eq_range'] using this
end
end Go.Eng
