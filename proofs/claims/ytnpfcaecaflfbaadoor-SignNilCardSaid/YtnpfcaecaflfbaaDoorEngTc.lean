/- An abstract evaluator of the model's code, part Tc: what an operation answers hangs on the blocks that it reaches, alone. -/
import Derived.Test.YtnpfcaecaflfbaaDoorEngT
namespace Go.Eng
open Go
set_option linter.unusedSimpArgs false
set_option linter.unusedVariables false
theorem Tree.bind_assoc {α β γ : Type} (t : Tree α) (f : α → Tree β) (g : β → Tree γ) : (t.bind f).bind g = t.bind fun a => (f a).bind g := by
  induction t with
  | leaf a => rfl
  | br c t e iht ihe => simp [Tree.bind, iht, ihe]
  | chk c t ih => simp [Tree.bind, ih]
  | fail => rfl
/-- two heaps that are the same at these numbers -/
structure Shut (get get' : Get) (F : List Nat) : Prop where
  same : ∀ i ∈ F, get' i = get i
  ids : ∀ i ∈ F, ∀ b, get i = some b → ∀ j ∈ blkIds b, j ∈ F
section
variable {P : Program} {Γ : Nat → AV} {get get' : Get} {F : List Nat} {T : List (CT P Γ)} {ip : Bool}
theorem cellsAt_local (h : Shut get get' F) {m : Nat} {x : AV} (hx : ∀ i ∈ x.ids, i ∈ F) : cellsAt get' m x = cellsAt get m x := by
  unfold cellsAt
  cases x with
  | v y =>
    cases y <;> first
      | rfl
      | (rename_i A n c; cases A <;> first | rfl | (cases n <;> first | rfl | (cases c <;> rfl)))
      | (rename_i A; cases A <;> rfl)
  | ptr i o => first | rfl | simp only [h.same i (hx i (List.mem_singleton.2 rfl))]
  | ap i => first | rfl | simp only [h.same i (hx i (List.mem_singleton.2 rfl))]
  | eptr i e o => first | rfl | simp only [h.same i (hx i (List.mem_singleton.2 rfl))]
  | hs i e n => first | rfl | simp only [h.same i (hx i (List.mem_singleton.2 rfl))]
  | map i => first | rfl | simp only [h.same i (hx i (List.mem_singleton.2 rfl))]
  | its i => first | rfl | simp only [h.same i (hx i (List.mem_singleton.2 rfl))]
  | _ => rfl
theorem loadE_local (h : Shut get get' F) {t : TypeId} {p : AV} (hp : ∀ i ∈ p.ids, i ∈ F) : loadE P get' t p = loadE P get t p := by
  unfold loadE
  simp only [cellsAt_local h hp]
theorem storeE_local (h : Shut get get' F) {t : TypeId} {p x : AV} (hp : ∀ i ∈ p.ids, i ∈ F) : storeE P get' t p x = storeE P get t p x := by
  unfold storeE
  cases p with
  | v y =>
    cases y <;> first
      | rfl
      | (rename_i A n c; cases A <;> first | rfl | (cases n <;> first | rfl | (cases c <;> rfl)))
      | (rename_i A; cases A <;> rfl)
  | ptr i o => first | rfl | simp only [h.same i (hp i (List.mem_singleton.2 rfl))]
  | ap i => first | rfl | simp only [h.same i (hp i (List.mem_singleton.2 rfl))]
  | eptr i e o => first | rfl | simp only [h.same i (hp i (List.mem_singleton.2 rfl))]
  | hs i e n => first | rfl | simp only [h.same i (hp i (List.mem_singleton.2 rfl))]
  | map i => first | rfl | simp only [h.same i (hp i (List.mem_singleton.2 rfl))]
  | its i => first | rfl | simp only [h.same i (hp i (List.mem_singleton.2 rfl))]
  | _ => rfl
theorem indexAddrE_local (h : Shut get get' F) {t : TypeId} {x ix : AV} (hx : ∀ i ∈ x.ids, i ∈ F) : indexAddrE P get' t x ix = indexAddrE P get t x ix := by
  unfold indexAddrE
  cases x with
  | v y =>
    cases y <;> first
      | rfl
      | (rename_i A n c; cases A <;> first | rfl | (cases n <;> first | rfl | (cases c <;> rfl)))
      | (rename_i A; cases A <;> rfl)
  | ptr i o => first | rfl | simp only [h.same i (hx i (List.mem_singleton.2 rfl))]
  | ap i => first | rfl | simp only [h.same i (hx i (List.mem_singleton.2 rfl))]
  | eptr i e o => first | rfl | simp only [h.same i (hx i (List.mem_singleton.2 rfl))]
  | hs i e n => first | rfl | simp only [h.same i (hx i (List.mem_singleton.2 rfl))]
  | map i => first | rfl | simp only [h.same i (hx i (List.mem_singleton.2 rfl))]
  | its i => first | rfl | simp only [h.same i (hx i (List.mem_singleton.2 rfl))]
  | _ => rfl
theorem sliceE_local (h : Shut get get' F) {nb : Nat} {t : TypeId} {x : AV} {lo hi mx : Option AV} (hx : ∀ i ∈ x.ids, i ∈ F) : sliceE P ip nb get' t x lo hi mx = sliceE P ip nb get t x lo hi mx := by
  unfold sliceE
  cases x with
  | v y =>
    cases y <;> first
      | rfl
      | (rename_i A n c; cases A <;> first | rfl | (cases n <;> first | rfl | (cases c <;> rfl)))
      | (rename_i A; cases A <;> rfl)
  | ptr i o => first | rfl | simp only [h.same i (hx i (List.mem_singleton.2 rfl))]
  | ap i => first | rfl | simp only [h.same i (hx i (List.mem_singleton.2 rfl))]
  | eptr i e o => first | rfl | simp only [h.same i (hx i (List.mem_singleton.2 rfl))]
  | hs i e n => first | rfl | simp only [h.same i (hx i (List.mem_singleton.2 rfl))]
  | map i => first | rfl | simp only [h.same i (hx i (List.mem_singleton.2 rfl))]
  | its i => first | rfl | simp only [h.same i (hx i (List.mem_singleton.2 rfl))]
  | _ => rfl
theorem source_local (h : Shut get get' F) {x : AV} (hx : ∀ i ∈ x.ids, i ∈ F) : source get' x = source get x := by
  unfold source
  cases x with
  | v y =>
    cases y <;> first
      | rfl
      | (rename_i A n c; cases A <;> first | rfl | (cases n <;> first | rfl | (cases c <;> rfl)))
      | (rename_i A; cases A <;> rfl)
  | ptr i o => first | rfl | simp only [h.same i (hx i (List.mem_singleton.2 rfl))]
  | ap i => first | rfl | simp only [h.same i (hx i (List.mem_singleton.2 rfl))]
  | eptr i e o => first | rfl | simp only [h.same i (hx i (List.mem_singleton.2 rfl))]
  | hs i e n => first | rfl | simp only [h.same i (hx i (List.mem_singleton.2 rfl))]
  | map i => first | rfl | simp only [h.same i (hx i (List.mem_singleton.2 rfl))]
  | its i => first | rfl | simp only [h.same i (hx i (List.mem_singleton.2 rfl))]
  | _ => rfl
theorem srcSz_local (h : Shut get get' F) {x : AV} (hx : ∀ i ∈ x.ids, i ∈ F) : srcSz get' x = srcSz get x := by
  unfold srcSz
  cases x with
  | v y =>
    cases y <;> first
      | rfl
      | (rename_i A n c; cases A <;> first | rfl | (cases n <;> first | rfl | (cases c <;> rfl)))
      | (rename_i A; cases A <;> rfl)
  | ptr i o => first | rfl | simp only [h.same i (hx i (List.mem_singleton.2 rfl))]
  | ap i => first | rfl | simp only [h.same i (hx i (List.mem_singleton.2 rfl))]
  | eptr i e o => first | rfl | simp only [h.same i (hx i (List.mem_singleton.2 rfl))]
  | hs i e n => first | rfl | simp only [h.same i (hx i (List.mem_singleton.2 rfl))]
  | map i => first | rfl | simp only [h.same i (hx i (List.mem_singleton.2 rfl))]
  | its i => first | rfl | simp only [h.same i (hx i (List.mem_singleton.2 rfl))]
  | _ => rfl
theorem appendC_local (h : Shut get get' F) {nb sz bytes : Nat} {s x : AV} (hs : ∀ i ∈ s.ids, i ∈ F) (hx : ∀ i ∈ x.ids, i ∈ F) : appendC ip nb get' sz bytes s x = appendC ip nb get sz bytes s x := by
  unfold appendC
  rw [source_local h hx, srcSz_local h hx]
  cases s with
  | v y =>
    cases y <;> first
      | rfl
      | (rename_i A n c; cases A <;> first | rfl | (cases n <;> first | rfl | (cases c <;> rfl)))
      | (rename_i A; cases A <;> rfl)
  | ptr i o => first | rfl | simp only [h.same i (hs i (List.mem_singleton.2 rfl))]
  | ap i => first | rfl | simp only [h.same i (hs i (List.mem_singleton.2 rfl))]
  | eptr i e o => first | rfl | simp only [h.same i (hs i (List.mem_singleton.2 rfl))]
  | hs i e n => first | rfl | simp only [h.same i (hs i (List.mem_singleton.2 rfl))]
  | map i => first | rfl | simp only [h.same i (hs i (List.mem_singleton.2 rfl))]
  | its i => first | rfl | simp only [h.same i (hs i (List.mem_singleton.2 rfl))]
  | _ => rfl
theorem appendE_local (h : Shut get get' F) {nb : Nat} {ts : Array TypeId} {s x : AV} (hs : ∀ i ∈ s.ids, i ∈ F) (hx : ∀ i ∈ x.ids, i ∈ F) : appendE P ip nb get' ts s x = appendE P ip nb get ts s x := by
  unfold appendE
  simp only [appendC_local h hs hx]
theorem copyE_local (h : Shut get get' F) {ts : Array TypeId} {d x : AV} (hd : ∀ i ∈ d.ids, i ∈ F) (hx : ∀ i ∈ x.ids, i ∈ F) : copyE P get' ts d x = copyE P get ts d x := by
  unfold copyE
  simp only [source_local h hx, srcSz_local h hx]
  cases ts[0]? with
  | none => rfl
  | some t =>
    simp only
    cases elemOfT P t with
    | none => rfl
    | some e =>
      simp only
      cases szOf P e with
      | none => rfl
      | some sz =>
        cases source get x with
        | none => rfl
        | some kg =>
          obtain ⟨k, g⟩ := kg
          cases d with
          | ptr i o => rfl
          | ap i => rfl
          | eptr i e o => rfl
          | hs i e n => simp only [h.same i (hd i (List.mem_singleton.2 rfl))]
          | map i => rfl
          | its i => rfl
          | _ => rfl
theorem clearE_local (h : Shut get get' F) {ts : Array TypeId} {d : AV} (hd : ∀ i ∈ d.ids, i ∈ F) : clearE P get' ts d = clearE P get ts d := by
  unfold clearE
  cases ts[0]? with
  | none => rfl
  | some t =>
    simp only
    cases elemOfT P t with
    | none => rfl
    | some e =>
      simp only
      cases zeroOf P e with
      | none => rfl
      | some z =>
        cases szOf P e with
        | none => rfl
        | some sz =>
          cases d with
          | ptr i o => rfl
          | ap i => rfl
          | eptr i e o => rfl
          | hs i e n => simp only [h.same i (hd i (List.mem_singleton.2 rfl))]
          | map i => rfl
          | its i => rfl
          | _ => rfl
theorem lenE_local (h : Shut get get' F) {ts : Array TypeId} {x : AV} (hx : ∀ i ∈ x.ids, i ∈ F) : lenE P get' ts x = lenE P get ts x := by
  unfold lenE
  cases ts[0]? with
  | none => rfl
  | some t =>
    simp only
    cases P.underlying t with
    | none => rfl
    | some u =>
      cases u <;> first
        | rfl
        | (cases x with
          | map i => simp only [h.same i (hx i (List.mem_singleton.2 rfl))]
          | v y =>
            cases y <;> first
              | rfl
              | (rename_i A n c; cases A <;> first | rfl | (cases n <;> first | rfl | (cases c <;> rfl)))
              | (rename_i A; cases A <;> rfl)
          | _ => rfl)
theorem convE_local (h : Shut get get' F) {nb : Nat} {s d : TypeId} {x : AV} (hx : ∀ i ∈ x.ids, i ∈ F) : convE P nb get' s d x = convE P nb get s d x := by
  unfold convE
  have e1 := source_local h hx
  have e2 := srcSz_local h hx
  cases convKind P s <;> first
    | rfl
    | (cases convKind P d <;> first
      | rfl
      | (cases x <;> first
        | rfl
        | simp only [e1, e2]
        | (rename_i y; cases y <;> first
          | rfl
          | simp only [e1, e2]
          | (rename_i A n c; cases A <;> first | rfl | simp only [e1, e2] | (cases n <;> first | rfl | simp only [e1, e2] | (cases c <;> first | rfl | simp only [e1, e2]))))))
theorem nextE_local (h : Shut get get' F) {x : AV} {str : Bool} (hx : ∀ i ∈ x.ids, i ∈ F) : nextE get' x str = nextE get x str := by
  unfold nextE
  cases str with
  | false => rfl
  | true =>
    cases x <;> first
      | rfl
      | (rename_i i; simp only [h.same i (hx i (List.mem_singleton.2 rfl))])
theorem lookupE_local (h : Shut get get' F) {t : TypeId} {x ix : AV} {ok : Bool} (hx : ∀ i ∈ x.ids, i ∈ F) : lookupE P get' t x ix ok = lookupE P get t x ix ok := by
  unfold lookupE
  cases x with
  | v y =>
    cases y <;> first
      | rfl
      | (rename_i A n c; cases A <;> first | rfl | (cases n <;> first | rfl | (cases c <;> rfl)))
      | (rename_i A; cases A <;> rfl)
  | ptr i o => first | rfl | simp only [h.same i (hx i (List.mem_singleton.2 rfl))]
  | ap i => first | rfl | simp only [h.same i (hx i (List.mem_singleton.2 rfl))]
  | eptr i e o => first | rfl | simp only [h.same i (hx i (List.mem_singleton.2 rfl))]
  | hs i e n => first | rfl | simp only [h.same i (hx i (List.mem_singleton.2 rfl))]
  | map i => first | rfl | simp only [h.same i (hx i (List.mem_singleton.2 rfl))]
  | its i => first | rfl | simp only [h.same i (hx i (List.mem_singleton.2 rfl))]
  | _ => rfl
theorem mapUpdE_local (h : Shut get get' F) {t : TypeId} {m k x : AV} (hm : ∀ i ∈ m.ids, i ∈ F) : mapUpdE P get' t m k x = mapUpdE P get t m k x := by
  unfold mapUpdE
  cases m with
  | v y =>
    cases y <;> first
      | rfl
      | (rename_i A n c; cases A <;> first | rfl | (cases n <;> first | rfl | (cases c <;> rfl)))
      | (rename_i A; cases A <;> rfl)
  | ptr i o => first | rfl | simp only [h.same i (hm i (List.mem_singleton.2 rfl))]
  | ap i => first | rfl | simp only [h.same i (hm i (List.mem_singleton.2 rfl))]
  | eptr i e o => first | rfl | simp only [h.same i (hm i (List.mem_singleton.2 rfl))]
  | hs i e n => first | rfl | simp only [h.same i (hm i (List.mem_singleton.2 rfl))]
  | map i => first | rfl | simp only [h.same i (hm i (List.mem_singleton.2 rfl))]
  | its i => first | rfl | simp only [h.same i (hm i (List.mem_singleton.2 rfl))]
  | _ => rfl
theorem reach_local (h : Shut get get' F) : ∀ (n : Nat) (todo seen : List Nat), (∀ i ∈ todo, i ∈ F) → reach get' n todo seen = reach get n todo seen := by
  intro n
  induction n with
  | zero => intro todo seen _; cases todo <;> rfl
  | succ n ih =>
    intro todo seen ht
    cases todo with
    | nil => rfl
    | cons i todo =>
      have hi : i ∈ F := ht i (by simp)
      have ht' : ∀ j ∈ todo, j ∈ F := fun j hj => ht j (by simp [hj])
      simp only [reach]
      rw [h.same i hi, ih todo seen ht']
      cases hg : get i with
      | none => rfl
      | some b =>
        simp only
        rw [ih (blkIds b ++ todo) (seen ++ [i]) fun j hj => by
          rcases List.mem_append.1 hj with hj | hj
          · exact h.ids i hi b hg j hj
          · exact ht' j hj]
theorem reach_in (h : ∀ i ∈ F, ∀ b, get i = some b → ∀ j ∈ blkIds b, j ∈ F) : ∀ (n : Nat) (todo seen r : List Nat), reach get n todo seen = some r → (∀ i ∈ todo, i ∈ F) → (∀ i ∈ seen, i ∈ F) → ∀ i ∈ r, i ∈ F := by
  intro n
  induction n with
  | zero =>
    intro todo seen r hr ht hs
    cases todo with
    | nil => simp only [reach, Option.some.injEq] at hr; subst hr; exact hs
    | cons i todo => simp [reach] at hr
  | succ n ih =>
    intro todo seen r hr ht hs
    cases todo with
    | nil => simp only [reach, Option.some.injEq] at hr; subst hr; exact hs
    | cons i todo =>
      have hi : i ∈ F := ht i (by simp)
      have ht' : ∀ j ∈ todo, j ∈ F := fun j hj => ht j (by simp [hj])
      simp only [reach] at hr
      split at hr
      · exact ih _ _ _ hr ht' hs
      · split at hr
        · rename_i b hg
          refine ih _ _ _ hr (fun j hj => ?_) (fun j hj => ?_)
          · rcases List.mem_append.1 hj with hj | hj
            · exact h i hi b hg j hj
            · exact ht' j hj
          · rcases List.mem_append.1 hj with hj | hj
            · exact hs j hj
            · simp only [List.mem_singleton] at hj; rw [hj]; exact hi
        · simp at hr
theorem blocksAt_local (h : Shut get get' F) : ∀ {ids : List Nat}, (∀ i ∈ ids, i ∈ F) → blocksAt get' ids = blocksAt get ids
  | [], _ => rfl
  | i :: ids, hi => by
    simp only [blocksAt]
    rw [h.same i (hi i (by simp)), blocksAt_local h fun j hj => hi j (by simp [hj])]
theorem mem_idsL : ∀ {cs : List AV} {i : Nat}, i ∈ AV.idsL cs → ∃ c ∈ cs, i ∈ c.ids
  | [], i, h => by simp [AV.idsL] at h
  | c :: cs, i, h => by
    simp only [AV.idsL, List.mem_append] at h
    rcases h with h | h
    · exact ⟨c, by simp, h⟩
    · obtain ⟨d, hd, hi⟩ := mem_idsL h; exact ⟨d, by simp [hd], hi⟩
theorem callE_local (h : Shut get get' F) {nb : Nat} {f : FuncId} {args : List AV} (ha : ∀ c ∈ args, ∀ i ∈ c.ids, i ∈ F) : callE T nb get' f args = callE T nb get f args := by
  have hids : ∀ i ∈ AV.idsL args, i ∈ F := fun i hi => let ⟨c, hc, hic⟩ := mem_idsL hi; ha c hc i hic
  unfold callE
  cases findCT f T with
  | none => rfl
  | some c =>
    simp only
    rw [reach_local h 1000 _ _ hids]
    cases hr : reach get 1000 (AV.idsL args) [] with
    | none => rfl
    | some ids =>
      simp only
      rw [blocksAt_local h (reach_in h.ids 1000 _ _ _ hr hids (fun i hi => by simp at hi))]
def callPart {P : Program} {Γ : Nat → AV} (T : List (CT P Γ)) (ip : Bool) (nb : Nat) (get : Get) (ρ : Operand → AV) (c : Go.Call) : TO :=
    match c.callee with
    | .builtin b =>
      match b, c.args.toList.map ρ with
      | .append, [s, x] => appendE P ip nb get c.argTypes s x
      | .copy, [d, x] => copyE P get c.argTypes d x
      | .len, [x] => lenE P get c.argTypes x
      | .clear, [x] => clearE P get c.argTypes x
      | .min, x :: xs => valT (minE x xs)
      | .max, x :: xs => valT (maxE x xs)
      | _, _ => .fail
    | .value f =>
      match ρ f with
      | .fn fid first cap => callE T nb get fid (first ++ c.args.toList.map ρ ++ cap)
      | _ => .fail
    | .invoke _ _ => .fail
theorem opE_local (h : Shut get get' F) {nb : Nat} {ρ : Operand → AV} (hρ : ∀ x, ∀ i ∈ (ρ x).ids, i ∈ F) {o : Op} : opE T ip nb get' ρ o = opE T ip nb get ρ o := by
  unfold opE
  cases o <;> first
    | rfl
    | (simp only [loadE_local h (hρ _)]; done)
    | (simp only [storeE_local h (hρ _)]; done)
    | (simp only [convE_local h (hρ _)]; done)
    | (simp only [sliceE_local h (hρ _)]; done)
    | (simp only [indexAddrE_local h (hρ _)]; done)
    | (simp only [nextE_local h (hρ _)]; done)
    | (simp only [lookupE_local h (hρ _)]; done)
    | (simp only [mapUpdE_local h (hρ _)]; done)
    | (rename_i fn' a b; cases fn' <;> rfl)
    | skip
  rename_i c
  change callPart T ip nb get' ρ c = callPart T ip nb get ρ c
  unfold callPart
  have hargs : ∀ x ∈ c.args.toList.map ρ, ∀ i ∈ x.ids, i ∈ F := fun x hx => by
    obtain ⟨y, _, rfl⟩ := List.mem_map.1 hx
    exact hρ y
  generalize c.callee = ce
  cases ce with
  | builtin b =>
    dsimp only
    generalize c.args.toList.map ρ = l at hargs
    cases b <;> first
      | rfl
      | (match l, hargs with
        | [], _ => rfl
        | [x], hargs => first | rfl | (simp only [lenE_local h (hargs x (by simp))]; done) | (simp only [clearE_local h (hargs x (by simp))]; done)
        | [s, x], hargs => first | rfl | (simp only [appendE_local h (hargs s (by simp)) (hargs x (by simp))]; done) | (simp only [copyE_local h (hargs s (by simp)) (hargs x (by simp))]; done)
        | _ :: _ :: _ :: _, _ => rfl)
  | value f =>
    dsimp only
    have hf := hρ f
    generalize ρ f = y at hf
    cases y <;> first
      | rfl
      | skip
    rename_i fid first cap
    dsimp only
    refine callE_local h fun x hx => ?_
    simp only [AV.ids] at hf
    rcases List.mem_append.1 hx with hx | hx
    · rcases List.mem_append.1 hx with hx | hx
      · intro i hi
        obtain ⟨j, hj⟩ := List.getElem?_of_mem hx
        exact hf i (List.mem_append_left _ (idsL_mem _ j _ hj i hi))
      · exact hargs x hx
    · intro i hi
      obtain ⟨j, hj⟩ := List.getElem?_of_mem hx
      exact hf i (List.mem_append_right _ (idsL_mem _ j _ hj i hi))
  | invoke a b => rfl
/-! ### steps that tell what they write -/
theorem stepW_map {ops : Array Oper} {o : Oper} {s : St} : ((stepW T ip ops o s).bind fun r => .leaf r.1) = stepE T ip ops o s := by
  unfold stepW stepE
  cases o.guard with
  | none => simp only [Tree.bind_assoc]; rfl
  | some jw =>
    obtain ⟨j, want⟩ := jw
    simp only
    cases ops[j]? with
    | none => rfl
    | some oj =>
      simp only
      cases oj.dst with
      | none => rfl
      | some t =>
        simp only
        generalize s.fr.getD t .any = y
        cases y with
        | v x =>
          cases x <;> first
            | rfl
            | (rename_i b
               simp only
               cases (b == want) with
               | true => simp only [Tree.bind_assoc]; rfl
               | false => rfl)
        | sb b =>
          simp only
          cases want with
          | true => simp only [Tree.bind, Tree.bind_assoc]
          | false => simp only [Tree.bind, Tree.bind_assoc]
        | _ => rfl
theorem stepV_map {ops : Array Oper} {o : Oper} {s : St} : ((stepV T ip ops o s).bind fun r => .leaf r.s) = stepD T ip ops o s := by
  unfold stepV stepD
  rw [← stepW_map]
  simp only [Tree.bind_assoc, Tree.bind]
theorem stepsY_map {ops : Array Oper} : ∀ (l : List Oper) (fr : List AV) (H : Heap), ((stepsY T ip ops l fr H).bind fun r => .leaf (r.map (·.s))) = stepsX T ip ops l fr H := by
  intro l
  induction l with
  | nil => intro fr H; rfl
  | cons o l ih =>
    intro fr H
    simp only [stepsY, stepsX]
    rw [← stepV_map]
    simp only [Tree.bind_assoc, Tree.bind]
    congr 1
    funext r
    rw [← ih]
    simp only [Tree.bind_assoc, Tree.bind, List.map_cons]
theorem Tree.All.of_map {α β : Type} {f : α → β} {Q : β → Prop} : ∀ {t : Tree α}, (t.bind fun a => .leaf (f a)).All Q → t.All fun a => Q (f a) := by
  intro t
  induction t with
  | leaf a => exact fun h => h
  | br c t e iht ihe => exact fun h => ⟨iht h.1, ihe h.2⟩
  | chk c t ih => exact fun h => ih h
  | fail => exact fun h => trivial
theorem endY_keeps {ops : Array Oper} {fr : List AV} {H : Heap} {R : List StW} (h : KeepsX (touched ops.toList) fr H (R.map (·.s))) : (endY T ip ops fr H R).All (Keeps (touched ops.toList) ⟨fr, H, false⟩) := by
  obtain ⟨h1, h2, h3⟩ := lastX_keeps (k := 0) (c := 0) h
  unfold endY
  split
  · rename_i hw
    exact ⟨h1, h2, fun _ => ⟨rfl, h3 hw⟩⟩
  · split
    · exact ⟨h1, h2, fun he => by simp at he⟩
    · exact endX_keeps h
theorem drawY_keeps {ops : Array Oper} {fr : List AV} {H : Heap} : ((stepsY T ip ops ops.toList fr H).bind fun R => endY T ip ops fr H R).All (Keeps (touched ops.toList) ⟨fr, H, false⟩) := by
  refine Tree.All.bind (fun R hR => endY_keeps hR) (Tree.All.of_map (f := fun r : List StW => r.map (·.s)) ?_)
  rw [stepsY_map]
  exact stepsX_keeps (T := T) (ip := ip) (ops := ops) ops.toList fr H (fun o ho => ho)
theorem draw_len {ops : Array Oper} {fr : List AV} {H : Heap} {s' : St} (h : (drawE T ip ops fr H).get = some s') : s'.fr.length = fr.length := by
  unfold drawE at h
  split at h
  · exact merge_len (s0 := ⟨fr, H, false⟩) drawY_keeps h
  · simp [Tree.get] at h
end
end Go.Eng
