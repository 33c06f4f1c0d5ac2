/- An abstract evaluator of the model's code, part U: numbering anew; loops; code. -/
import Derived.Test.YtnpfcaecaflfbaaDoorEngTf
namespace Go.Eng
open Go
set_option linter.unusedSimpArgs false
set_option linter.unusedVariables false

section
variable {P : Program} {Γ : Nat → AV} {κ : Ctx} {m : Nat} {σ : Store} {φ : Places} {w : World} {ip : Bool} {T : List (CT P Γ)}

theorem canonIds_ok {vals : List AV} {H : Heap} {ids : List Nat} (h : canonIds m vals H = some ids) :
    ids.Nodup ∧ (∀ k, k < m → ids[k]? = some k) ∧ m ≤ ids.length ∧ (∀ i ∈ AV.idsL vals, i ∈ ids) ∧ (∀ i ∈ ids, ∀ b, getH H i = some b → ∀ j ∈ blkIds b, j ∈ ids) := by
  unfold canonIds at h
  split at h
  · rename_i ids0 h0
    split at h
    · rename_i all ha
      simp only [Option.some.injEq] at h
      subst h
      obtain ⟨_, _, t0, _, _⟩ := reach_ok _ _ _ _ h0 (by simp) (by simp) (by simp)
      obtain ⟨n1, _, t1, _, c1⟩ := reach_ok _ _ _ _ ha (by simp) (by simp) (by simp)
      have inn : ∀ i, i ∈ all → i ∈ List.range m ++ all.filter (fun i => Nat.ble m i) := fun i hi => by
        by_cases hlt : i < m
        · simp [hlt]
        · refine List.mem_append_right _ (List.mem_filter.2 ⟨hi, ?_⟩)
          exact Nat.ble_eq_true_of_le (by omega)
      refine ⟨List.nodup_append.2 ⟨List.nodup_range, n1.filter _, fun a ha b hb e => ?_⟩, fun k hk => ?_, by simp, fun i hi => inn i (t1 i (by simp [t0 i hi])), fun i hi b hb j hj => ?_⟩
      · subst e
        have h1 : a < m := by simpa using ha
        have h2 := Nat.le_of_ble_eq_true (List.mem_filter.1 hb).2
        omega
      · rw [List.getElem?_append_left (by simpa using hk)]; simp [hk]
      · have hall : i ∈ all := by
          rcases List.mem_append.1 hi with h | h
          · refine t1 i (List.mem_append_right _ (List.mem_filter.2 ⟨h, by simp [hb]⟩))
          · exact (List.mem_filter.1 h).1
        exact inn j (c1 i hall b hb j hj)
    · simp at h
  · simp at h

theorem canon_ok {vals vals' : List AV} {H H' : Heap} {ys : List Value} (h : canon m vals H = some (vals', H')) (hv : VL σ φ vals ys) (hR : R κ σ φ (getH H) w) :
    ∃ φ', (∀ k, k < m → φ' k = φ k) ∧ VL σ φ' vals' ys ∧ R κ σ φ' (getH H') w ∧ (∀ k, H'.length ≤ k → φ' k = none) ∧ m ≤ H'.length := by
  unfold canon at h
  split at h
  · rename_i ids hids
    simp only [Option.some.injEq, Prod.mk.injEq] at h
    obtain ⟨rfl, rfl⟩ := h
    obtain ⟨hn, hlow, hm, hval, hcl⟩ := canonIds_ok hids
    have hlen : (canonH (fun i => posIn i ids) H ids).length = ids.length := by simp [canonH]
    have hgetH : ∀ (k i : Nat), ids[k]? = some i → getH (canonH (fun i => posIn i ids) H ids) k = (getH H i).map (blkRen fun i => posIn i ids) := by
      intro k i hk
      show (match (canonH _ H ids)[k]? with | some b => b | none => none) = _
      simp [canonH, hk]
    have hphi : ∀ (k : Nat) (L : Lc), (ids[k]?.bind φ) = some L → ∃ i, ids[k]? = some i ∧ φ i = some L := by
      intro k L h
      cases hk : ids[k]? with
      | none => simp [hk] at h
      | some i => exact ⟨i, rfl, by simpa [hk] using h⟩
    refine ⟨fun (k : Nat) => ids[k]?.bind φ, fun k hk => by simp [hlow k hk], hv.ren fun i hi L hL => by simp [posIn_get (hval i hi), hL], ?_, fun k hk => by
      rw [hlen] at hk; simp [List.getElem?_eq_none hk], by rw [hlen]; exact hm⟩
    refine ⟨hR.cell, fun k L hk hv hg o => ?_, fun k blk L hg hk hv => ?_, fun k j Lk Lj hne hgk hgj pk pj vk vj => ?_, fun k L hk hv => ?_, hR.tape, hR.os, hR.output, hR.grow, hR.old, hR.store,
      fun k L hk hv => ?_, hR.base, fun k b hg => ?_, fun k L sz n f hg hk => ?_⟩
    · obtain ⟨i, hi, hp⟩ := hphi k L hk
      rw [hgetH k i hi] at hg
      exact hR.apart i L hp hv (by simpa using hg) o
    · obtain ⟨i, hi, hp⟩ := hphi k L hk
      rw [hgetH k i hi] at hg
      obtain ⟨b, hb, rfl⟩ := Option.map_eq_some_iff.1 hg
      refine blkAt_ren (hR.obj i b L hb hp hv) fun j hj K hK => ?_
      have hj' := hcl i (List.mem_of_getElem? hi) b hb j hj
      simp [posIn_get hj', hK]
    · obtain ⟨i, hi, hp⟩ := hphi k Lk pk
      obtain ⟨i', hi', hp'⟩ := hphi j Lj pj
      rw [hgetH k i hi] at hgk
      rw [hgetH j i' hi'] at hgj
      refine hR.dis i i' Lk Lj (fun e => hne ?_) (by simpa using hgk) (by simpa using hgj) hp hp' vk vj
      subst e
      have h1 := (List.getElem?_eq_some_iff.1 hi)
      have h2 := (List.getElem?_eq_some_iff.1 hi')
      exact (List.getElem_inj hn).1 (h1.2.trans h2.2.symm)
    · obtain ⟨i, hi, hp⟩ := hphi k L hk
      exact hR.lt i L hp hv
    · obtain ⟨i, hi, hp⟩ := hphi k L hk
      exact hR.mine i L hp hv
    · cases hk : ids[k]? with
      | none =>
        have : getH (canonH (fun i => posIn i ids) H ids) k = none := by
          show (match (canonH _ H ids)[k]? with | some b => b | none => none) = _
          simp [canonH, hk]
        rw [this] at hg; simp at hg
      | some i =>
        rw [hgetH k i hk] at hg
        obtain ⟨b0, hb0, rfl⟩ := Option.map_eq_some_iff.1 hg
        exact blkWf_ren (hR.wf i b0 hb0)
    · obtain ⟨i, hi, hp⟩ := hphi k L hk
      rw [hgetH k i hi] at hg
      obtain ⟨b0, hb0, he⟩ := Option.map_eq_some_iff.1 hg
      exact hR.len i L sz n f (by rw [hb0, blkRen_arr he]) hp
  · simp at h

theorem VL.mono {φ' : Places} {xs : List AV} {ys : List Value} (hp : φ.le φ') (h : VL σ φ xs ys) : VL σ φ' xs ys := ⟨h.1, fun j c y hc hy => (h.2 j c y hc hy).mono (Store.le_refl σ) hp⟩
theorem boxNils_ok : ∀ {nils : List (Nat × TypeId)} {vals vals' : List AV} {H H' : Heap} {ys : List Value} {φ : Places}, boxNils P nils vals H = some (vals', H') → VL σ φ vals ys → R κ σ φ (getH H) w →
    (∀ k, H.length ≤ k → φ k = none) → ∃ φ', (∀ k, k < H.length → φ' k = φ k) ∧ VL σ φ' vals' ys ∧ R κ σ φ' (getH H') w ∧ (∀ k, H'.length ≤ k → φ' k = none) ∧ H.length ≤ H'.length := by
  intro nils
  induction nils with
  | nil =>
    intro vals vals' H H' ys φ h hv hR hn
    simp only [boxNils, Option.some.injEq, Prod.mk.injEq] at h
    obtain ⟨rfl, rfl⟩ := h
    exact ⟨φ, fun _ _ => rfl, hv, hR, hn, Nat.le_refl _⟩
  | cons q nils ih =>
    obtain ⟨k, t⟩ := q
    intro vals vals' H H' ys φ h hv hR hn
    simp only [boxNils] at h
    split at h
    · rename_i hk
      split at h
      · rename_i sz z hsz hz
        split at h
        · rename_i hzl
          have hnb := hn H.length (Nat.le_refl _)
          have hg : getH (H ++ [some (Blk.arr sz 0 fun _ => z)]) = updG (getH H) H.length (some (.arr sz 0 fun _ => z)) := by
            have := fun j => getH_append (H := H) (bs := [Blk.arr sz 0 fun _ => z]) (k := j)
            funext j
            exact this j
          have hR1 := hR.virtual (L := ⟨0, 0, sz, 0, 0, true⟩) hnb rfl (some (.arr sz 0 fun _ => z)) (fun b' hb' => by simp at hb'; subst hb'; exact fun _ => hzl) (fun _ _ _ h' => by cases h'; rfl)
          rw [← hg] at hR1
          have hv1 : VL σ (fresh φ H.length ⟨0, 0, sz, 0, 0, true⟩) (vals.set k (.hs H.length 0 0)) ys := by
            have hvm := hv.mono (fresh_le hnb ⟨0, 0, sz, 0, 0, true⟩)
            refine ⟨by rw [List.length_set]; exact hv.1, fun j c y hc hy => ?_⟩
            rw [List.getElem?_set] at hc
            split at hc
            · rename_i e; subst e
              split at hc
              · simp at hc; subst hc
                have := (hv.2 k _ y hk hy).v_eq
                subst this
                exact .hsnil none fresh_at (Nat.le_refl 0) rfl
              · simp at hc
            · exact hvm.2 j c y hc hy
          obtain ⟨φ', h1, h2, h3, h4, h5⟩ := ih h hv1 hR1 (fun j hj => by
            simp only [List.length_append, List.length_singleton] at hj
            exact fresh_none (m := 0) (hn j (by omega)) (.inr (by omega)))
          simp only [List.length_append, List.length_singleton] at h1 h5
          refine ⟨φ', fun j hj => ?_, h2, h3, h4, by omega⟩
          rw [h1 j (by omega)]
          have : j ≠ H.length := by omega
          simp [fresh, this]
        · simp at h
      · simp at h
    · exact ih h hv hR hn
    · simp at h

theorem getD_map {l : List Nat} {f : Nat → Value} {t : Nat} {d : Value} (h : t ∈ l) : (l.map f).getD (posIn t l) d = f t := by
  have := posIn_get h
  rw [List.getD_eq_getElem?_getD, List.getElem?_map, this]; rfl
theorem VL.getD {xs : List AV} {ys : List Value} (h : VL σ φ xs ys) (j : Nat) (d : Value) : V σ φ (xs.getD j .any) (ys.getD j d) := by
  have hl := h.1
  by_cases hj : j < xs.length
  · have h1 : xs[j]? = some xs[j] := by simp [hj]
    have h2 : ys[j]? = some (ys[j]'(by omega)) := by simp
    rw [List.getD_eq_getElem?_getD, List.getD_eq_getElem?_getD, h1, h2]
    exact h.2 j _ _ h1 h2
  · rw [List.getD_eq_getElem?_getD, List.getElem?_eq_none (by omega)]; exact V_any _
theorem expand_FR {a : Act} {live : List Nat} {vals : List AV} (h : VL σ φ vals (live.map fun t => a.tmps.getD t undef)) : FR σ φ (expand a.tmps.size live vals) a := by
  refine ⟨by simp [expand], fun t => ?_⟩
  by_cases ht : t < a.tmps.size
  · have : (expand a.tmps.size live vals).getD t .any = (match memN t live with | true => vals.getD (posIn t live) .any | false => .any) := by
      rw [List.getD_eq_getElem?_getD]
      simp only [expand, List.getElem?_map, List.getElem?_range ht, Option.map_some, Option.getD_some]
      rfl
    rw [this]
    split
    · rename_i hm
      have := h.getD (posIn t live) undef
      rw [getD_map (memN_iff.1 hm)] at this
      exact this
    · exact V_any _
  · have : (expand a.tmps.size live vals).getD t .any = .any := by
      rw [List.getD_eq_getElem?_getD, List.getElem?_eq_none (by simp [expand]; omega)]; rfl
    rw [this]; exact V_any _
theorem cleanV_ok {get : Get} {x : AV} {v : Value} (h : V σ φ x v) : V σ φ (cleanV get x) v := by
  unfold cleanV
  split
  · exact h
  · split
    · exact h
    · exact V_any _
theorem live_VL {fr : List AV} {a : Act} {get : Get} (h : FR σ φ fr a) (live : List Nat) : VL σ φ (live.map fun t => cleanV get (fr.getD t .any)) (live.map fun t => a.tmps.getD t undef) :=
  ⟨by simp, fun j c y hc hy => by
    simp only [List.getElem?_map, Option.map_eq_some_iff] at hc hy
    obtain ⟨t, ht, rfl⟩ := hc
    obtain ⟨t', ht', rfl⟩ := hy
    rw [ht] at ht'; cases ht'
    exact cleanV_ok (h.2 t)⟩

/-- the head of a loop, where the frame is known -/
theorem head_ok {live : List Nat} {nils : List (Nat × TypeId)} {fr : List AV} {H : Heap} {vals : List AV} {H' : Heap} {a : Act} (h : headE P m live nils fr H = some (vals, H')) (hI : Inv κ m σ φ fr H a w) :
    ∃ φ', (∀ k, k < m → φ' k = φ k) ∧ Inv κ m σ φ' (expand a.tmps.size live vals) H' a w := by
  unfold headE at h
  split at h
  · rename_i vals1 H1 hb
    obtain ⟨φ1, h1, h2, h3, h4, h5⟩ := boxNils_ok hb (live_VL hI.F live) hI.R hI.none
    obtain ⟨φ2, k1, k2, k3, k4, k5⟩ := canon_ok h h2 h3
    exact ⟨φ2, fun k hk => (k1 k hk).trans (h1 k (Nat.lt_of_lt_of_le hk hI.len)), k5, expand_FR k2, k3, k4⟩
  · simp at h

/-! ### exits -/
def AEx.to : AEx → Exit
  | .normal => .normal
  | .exit id => .exit id
  | .ret => .ret

/-- what a loop does is as its summary says, in frames of 'N' slots -/
def LoopOK (P : Program) (Γ : Nat → AV) (m N : Nat) (body : Code) (ls : LSpec) : Prop :=
  ∀ vals H o, (ls.spec vals H).get = some o → ∀ (κ : Ctx) (σ : Store) (φ : Places) (a : Act) (w : World) (Q : Exit → Act → World → Prop), Globals Γ σ → a.tmps.size = N →
    Inv κ m σ φ (expand N ls.live vals) H a w →
    (∀ a' w' σ' φ', σ.le σ' → (∀ k, k < m → φ' k = φ k) → a'.defers = a.defers → a'.tmps.size = N → Inv κ m σ' φ' (expand N ls.live o.fr) o.H a' w' → Q o.ex.to a' w') →
    (Code.loop body).wp P Q a w

theorem Inv.tmps {fr : List AV} {H : Heap} {a : Act} (h : Inv κ m σ φ fr H a w) : a.tmps.size = fr.length := h.F.1.symm

theorem nloops_len : ∀ c : Code, (loopBodies c).length = nloops c := by
  intro c
  induction c with
  | seq a b ia ib => simp [loopBodies, nloops, ia, ib]
  | cond c a b ia ib => simp [loopBodies, nloops, ia, ib]
  | block id b ib => simp [loopBodies, nloops, ib]
  | loop b ib => simp [loopBodies, nloops, ib]
  | _ => rfl

theorem code_ok {L : Nat → LSpec} {N : Nat} : ∀ (c : Code) (k : Nat) (fr : List AV) (H : Heap) (o : Out) (σ : Store) (φ : Places) (a : Act) (w : World) (Q : Exit → Act → World → Prop),
    (∀ (j : Nat) (b : Code), (loopBodies c)[j]? = some b → LoopOK P Γ m N b (L (k + j))) → (codeE T L ip m k c fr H).get = some o → Inv κ m σ φ fr H a w → Globals Γ σ → fr.length = N →
    (∀ a' w' σ' φ', σ.le σ' → (∀ k, k < m → φ' k = φ k) → a'.defers = a.defers → o.fr.length = N → Inv κ m σ' φ' o.fr o.H a' w' → Q o.ex.to a' w') → c.wp P Q a w := by
  intro c
  induction c with
  | skip =>
    intro k fr H o σ φ a w Q hL h hI hG hN hQ
    simp only [codeE, Tree.get, Option.some.injEq] at h
    subst h
    exact wp_skip (hQ a w σ φ (Store.le_refl σ) (fun _ _ => rfl) rfl hN hI)
  | region id ops draw =>
    intro k fr H o σ φ a w Q hL h hI hG hN hQ
    simp only [codeE] at h
    obtain ⟨s, hs, ho⟩ := Tree.get_bind_some h
    simp only [Tree.get, Option.some.injEq] at ho
    subst ho
    cases draw with
    | true => exact draw_ok hs hI hG fun a' w' σ' φ' e1 e2 e3 hI' => hQ a' w' σ' φ' e1 e2 e3 (by
        exact (draw_len hs).trans hN) hI'
    | false => exact region_ok hs hI hG fun a' w' σ' φ' e1 e2 e3 hI' => hQ a' w' σ' φ' e1 e2 e3 ((region_len hs).trans hN) hI'
  | seq x y ix iy =>
    intro k fr H o σ φ a w Q hL h hI hG hN hQ
    simp only [codeE] at h
    obtain ⟨o1, h1, h2⟩ := Tree.get_bind_some h
    refine wp_seq (ix k fr H o1 σ φ a w _ (fun j b hj => hL j b (by
      have hlt := (List.getElem?_eq_some_iff.1 hj).1
      simp only [loopBodies]; rw [List.getElem?_append_left hlt]; exact hj)) h1 hI hG hN ?_)
    intro a' w' σ' φ' e1 e2 e3 e4 hI'
    cases hex : o1.ex with
    | normal =>
      rw [hex] at h2
      simp only [AEx.to, Exit.then]
      refine iy (k + nloops x) o1.fr o1.H o σ' φ' a' w' Q (fun j b hj => by
        have := hL (nloops x + j) b (by simp only [loopBodies]; rw [List.getElem?_append_right (by rw [nloops_len]; omega), nloops_len, Nat.add_sub_cancel_left]; exact hj)
        rwa [← Nat.add_assoc] at this) h2 hI' (hG.mono e1) e4 fun a'' w'' σ'' φ'' f1 f2 f3 f4 hI'' =>
          hQ a'' w'' σ'' φ'' (Store.le_trans e1 f1) (fun k hk => (f2 k hk).trans (e2 k hk)) (f3.trans e3) f4 hI''
    | exit id =>
      rw [hex] at h2
      simp only [Tree.get, Option.some.injEq] at h2
      subst h2
      have := hQ a' w' σ' φ' e1 e2 e3 e4 hI'
      rw [hex] at this
      simpa [AEx.to, Exit.then] using this
    | ret =>
      rw [hex] at h2
      simp only [Tree.get, Option.some.injEq] at h2
      subst h2
      have := hQ a' w' σ' φ' e1 e2 e3 e4 hI'
      rw [hex] at this
      simpa [AEx.to, Exit.then] using this
  | cond c x y ix iy =>
    intro k fr H o σ φ a w Q hL h hI hG hN hQ
    have hx : ∀ (j : Nat) (b : Code), (loopBodies x)[j]? = some b → LoopOK P Γ m N b (L (k + j)) := fun j b hj => hL j b (by
      have hlt := (List.getElem?_eq_some_iff.1 hj).1
      simp only [loopBodies]; rw [List.getElem?_append_left hlt]; exact hj)
    have hy : ∀ (j : Nat) (b : Code), (loopBodies y)[j]? = some b → LoopOK P Γ m N b (L (k + nloops x + j)) := fun j b hj => by
      have := hL (nloops x + j) b (by simp only [loopBodies]; rw [List.getElem?_append_right (by rw [nloops_len]; omega), nloops_len, Nat.add_sub_cancel_left]; exact hj)
      rwa [← Nat.add_assoc] at this
    have hv := hI.F.eval hG c
    simp only [codeE] at h
    split at h
    · rename_i hc
      rw [hc] at hv
      exact wp_cond_true hv.v_eq (ix k fr H o σ φ a w Q hx h hI hG hN hQ)
    · rename_i hc
      rw [hc] at hv
      exact wp_cond_false hv.v_eq (iy _ fr H o σ φ a w Q hy h hI hG hN hQ)
    · rename_i b hc
      rw [hc] at hv
      cases b with
      | true => exact wp_cond_true hv.sb_eq (ix k fr H o σ φ a w Q hx h hI hG hN hQ)
      | false => exact wp_cond_false hv.sb_eq (iy _ fr H o σ φ a w Q hy h hI hG hN hQ)
    · simp [Tree.get] at h
  | block id c ic =>
    intro k fr H o σ φ a w Q hL h hI hG hN hQ
    simp only [codeE] at h
    obtain ⟨o1, h1, h2⟩ := Tree.get_bind_some h
    refine wp_block (ic k fr H o1 σ φ a w _ hL h1 hI hG hN ?_)
    intro a' w' σ' φ' e1 e2 e3 e4 hI'
    cases hex : o1.ex with
    | normal =>
      rw [hex] at h2
      simp only [Tree.get, Option.some.injEq] at h2
      subst h2
      have := hQ a' w' σ' φ' e1 e2 e3 e4 hI'
      rw [hex] at this
      simpa [AEx.to, Exit.inBlock] using this
    | exit j =>
      rw [hex] at h2
      simp only [AEx.to, Exit.inBlock]
      simp only at h2
      split at h2
      · rename_i hb
        have := Nat.eq_of_beq_eq_true hb
        rw [if_pos this]
        simp only [Tree.get, Option.some.injEq] at h2
        subst h2
        exact hQ a' w' σ' φ' e1 e2 e3 e4 hI'
      · rename_i hb
        have hne : j ≠ id := fun e => by rw [e, Nat.beq_refl] at hb; simp at hb
        rw [if_neg hne]
        simp only [Tree.get, Option.some.injEq] at h2
        subst h2
        have := hQ a' w' σ' φ' e1 e2 e3 e4 hI'
        rw [hex] at this
        exact this
    | ret =>
      rw [hex] at h2
      simp only [Tree.get, Option.some.injEq] at h2
      subst h2
      have := hQ a' w' σ' φ' e1 e2 e3 e4 hI'
      rw [hex] at this
      simpa [AEx.to, Exit.inBlock] using this
  | loop c ic =>
    intro k fr H o σ φ a w Q hL h hI hG hN hQ
    simp only [codeE] at h
    split at h
    · rename_i vals H' hh
      obtain ⟨o1, h1, h2⟩ := Tree.get_bind_some h
      simp only [Tree.get, Option.some.injEq] at h2
      subst h2
      obtain ⟨φ', e1, hI1⟩ := head_ok hh hI
      have hsz : a.tmps.size = N := by rw [hI.tmps]; exact hN
      rw [hsz] at hI1
      have hl := hL 0 c (by simp [loopBodies])
      refine hl vals H' o1 (by simpa using h1) κ σ φ' a w Q hG hsz (by simpa using hI1) fun a' w' σ' φ'' f1 f2 f3 f4 hI' => ?_
      have := hQ a' w' σ' φ'' f1 (fun k hk => (f2 k hk).trans (e1 k hk)) f3 (by simp [expand, hN]) (by simpa [hN] using hI')
      exact this
    · simp [Tree.get] at h
  | exit id =>
    intro k fr H o σ φ a w Q hL h hI hG hN hQ
    simp only [codeE, Tree.get, Option.some.injEq] at h
    subst h
    exact wp_exit (hQ a w σ φ (Store.le_refl σ) (fun _ _ => rfl) rfl hN hI)
  | ret =>
    intro k fr H o σ φ a w Q hL h hI hG hN hQ
    simp only [codeE, Tree.get, Option.some.injEq] at h
    subst h
    exact wp_ret (hQ a w σ φ (Store.le_refl σ) (fun _ _ => rfl) rfl hN hI)
  | _ => intro k fr H o σ φ a w Q hL h; simp [codeE, Tree.get] at h
end
end Go.Eng
