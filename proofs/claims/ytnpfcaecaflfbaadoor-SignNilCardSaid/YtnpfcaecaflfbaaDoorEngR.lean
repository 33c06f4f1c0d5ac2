/- An abstract evaluator of the model's code, part R: every operation. -/
import Derived.Test.YtnpfcaecaflfbaaDoorEngQ
namespace Go.Eng
open Go
set_option linter.unusedSimpArgs false
set_option linter.unusedVariables false

section
variable {P : Program} {Γ : Nat → AV} {κ : Ctx} {σ : Store} {φ : Places} {get : Get} {w : World} {nb : Nat} {ip : Bool} {out : OpOut} {T : List (CT P Γ)}

theorem Eff.post {s : Sem Value} (h : Eff P κ σ φ nb get w s out) : ∃ v w', s.run P w = .ok v w' ∧ Post κ σ φ nb get out v w' := by
  obtain ⟨v, w', φ', h1, h2, h3, h4, h5⟩ := h
  exact ⟨v, w', h1, σ, φ', Store.le_refl σ, h2, h3, h4, h5⟩

theorem wp_value {o : Oper} {a : Act} {s : Sem Value} {next : Act → World → Prop} {Q : Exit → Act → World → Prop} (he : execOp a.eval o = (do pure (.value (← s))))
    (h : Eff P κ σ φ nb get w s out) (hK : ∀ v w', Post κ σ φ nb get out v w' → next (a.put o.dst v) w') : o.wp P a w next Q := by
  obtain ⟨v, w', hr, hp⟩ := h.post
  unfold Oper.wp
  rw [he]
  simp only [Sem.run_bind, hr, Result.andThen_ok, Sem.run_pure, Oper.upon]
  exact hK v w' hp

theorem findCT_ok : ∀ {T : List (CT P Γ)} {f : FuncId} {c : CT P Γ}, findCT f T = some c → c.f = f := by
  intro T
  induction T with
  | nil => intro f c h; simp [findCT] at h
  | cons d T ih =>
    intro f c h
    simp only [findCT] at h
    split at h
    · rename_i hb; simp at h; subst h; exact Nat.eq_of_beq_eq_true hb
    · exact ih h

theorem PL_map {ρ : Operand → AV} {ε : Operand → Value} (hρ : ∀ x, V σ φ (ρ x) (ε x)) : ∀ (l : List (Nat × Operand)), PL σ φ (l.map fun q => (q.1, ρ q.2)) (l.map fun q => (q.1, ε q.2)) := by
  intro l
  induction l with
  | nil => trivial
  | cons q l ih => exact ⟨rfl, hρ q.2, ih⟩
theorem VL_map {ρ : Operand → AV} {ε : Operand → Value} (hρ : ∀ x, V σ φ (ρ x) (ε x)) (l : List Operand) : VL σ φ (l.map ρ) (l.map ε) :=
  ⟨by simp, fun j c y hc hy => by
    simp only [List.getElem?_map, Option.map_eq_some_iff] at hc hy
    obtain ⟨x, hx, rfl⟩ := hc
    obtain ⟨x', hx', rfl⟩ := hy
    rw [hx] at hx'; cases hx'
    exact hρ x⟩
theorem VL.append {xs xs' : List AV} {ys ys' : List Value} (h : VL σ φ xs ys) (h' : VL σ φ xs' ys') : VL σ φ (xs ++ xs') (ys ++ ys') := by
  have hl := h.1
  refine ⟨by simp [hl, h'.1], fun j c y hc hy => ?_⟩
  by_cases hj : j < xs.length
  · rw [List.getElem?_append_left hj] at hc
    rw [List.getElem?_append_left (by omega)] at hy
    exact h.2 j c y hc hy
  · rw [List.getElem?_append_right (by omega)] at hc
    rw [List.getElem?_append_right (by omega), ← hl] at hy
    exact h'.2 _ c y hc hy
theorem VO_map {ρ : Operand → AV} {ε : Operand → Value} (hρ : ∀ x, V σ φ (ρ x) (ε x)) (o : Option Operand) : VO σ φ (mapOpt ρ o) (o.map ε) := by
  cases o with
  | none => trivial
  | some x => exact hρ x

set_option maxHeartbeats 2000000 in
theorem opE_ok {ρ : Operand → AV} {o : Oper} {a : Act} {next : Act → World → Prop} {Q : Exit → Act → World → Prop} (h : (opE T ip nb get ρ o.op).get = some out)
    (hρ : ∀ x, V σ φ (ρ x) (a.eval x)) (hR : R κ σ φ get w) (hG : Globals Γ σ) (hn : ∀ k, nb ≤ k → k < nb + out.new.length → φ k = none)
    (hK : ∀ v w', Post κ σ φ nb get out v w' → next (a.put o.dst v) w') : o.wp P a w next Q := by
  obtain ⟨dst, op, type, pos, after, guard⟩ := o
  simp only at h
  have pur : ∀ (s : Sem Value), execOp a.eval ⟨dst, op, type, pos, after, guard⟩ = (do pure (.value (← s))) → Pur P σ φ w s out → Oper.wp P ⟨dst, op, type, pos, after, guard⟩ a w next Q :=
    fun s he hp => wp_value he (hp.eff hR) hK
  have eff : ∀ (s : Sem Value), execOp a.eval ⟨dst, op, type, pos, after, guard⟩ = (do pure (.value (← s))) → Eff P κ σ φ nb get w s out → Oper.wp P ⟨dst, op, type, pos, after, guard⟩ a w next Q :=
    fun s he hp => wp_value he hp hK
  unfold opE at h
  split at h
  · rename_i x
    obtain rfl := get_one h
    exact pur (pure (a.eval x)) rfl (.mk rfl (hρ x))
  · rename_i x
    obtain rfl := get_one h
    exact pur (pure (a.eval x)) rfl (.mk rfl (hρ x))
  · rename_i c x y
    unfold pickE at h
    split at h
    · rename_i hc
      obtain rfl := get_one h
      have hv := hρ c; rw [hc] at hv
      refine pur (pure (a.eval x)) ?_ (.mk rfl (hρ x))
      show (do pure (.value (if ← asBool (a.eval c) then a.eval x else a.eval y)) : Sem Next) = _
      rw [hv.v_eq]; rfl
    · rename_i hc
      obtain rfl := get_one h
      have hv := hρ c; rw [hc] at hv
      refine pur (pure (a.eval y)) ?_ (.mk rfl (hρ y))
      show (do pure (.value (if ← asBool (a.eval c) then a.eval x else a.eval y)) : Sem Next) = _
      rw [hv.v_eq]; rfl
    · rename_i b hc
      have hv := hρ c; rw [hc] at hv
      cases b with
      | true =>
        simp only [Tree.get] at h
        obtain rfl := get_one h
        refine pur (pure (a.eval x)) ?_ (.mk rfl (hρ x))
        show (do pure (.value (if ← asBool (a.eval c) then a.eval x else a.eval y)) : Sem Next) = _
        rw [hv.sb_eq]; rfl
      | false =>
        simp only [Tree.get] at h
        obtain rfl := get_one h
        refine pur (pure (a.eval y)) ?_ (.mk rfl (hρ y))
        show (do pure (.value (if ← asBool (a.eval c) then a.eval x else a.eval y)) : Sem Next) = _
        rw [hv.sb_eq]; rfl
    · simp [Tree.get] at h
  · rename_i t
    split at h
    · rename_i z hz
      obtain ⟨zv, hzr, hzz⟩ := run_zeroValue (w := w) hz
      have hal : ∀ hn', Eff P κ σ φ nb get w (do pure (.pointer (some (← newRow t zv.cells)))) out := fun hn' => alloc_ok (get := get) h (by rw [hzz]; exact zero_VL zv) hR hn'
      refine eff (Instr.alloc t true (.tuple #[])) rfl ?_
      have hnb : φ nb = none := by
        unfold allocE at h
        split at h
        · split at h
          · split at h
            · simp only [Tree.get, Option.some.injEq] at h; subst h; exact hn nb (Nat.le_refl _) (by simp)
            · simp [Tree.get] at h
          · simp [Tree.get] at h
        · simp only [Tree.get, Option.some.injEq] at h; subst h; exact hn nb (Nat.le_refl _) (by simp)
        · simp [Tree.get] at h
      obtain ⟨v, w', φ', h1, h2⟩ := hal hnb
      refine ⟨v, w', φ', ?_, h2⟩
      rw [← h1]
      simp [Instr.alloc, hzr, newVar]
    · simp [Tree.get] at h
  · rename_i t x
    split at h
    · rename_i cs hcs
      have hnb : φ nb = none := by
        unfold allocE at h
        split at h
        · split at h
          · split at h
            · simp only [Tree.get, Option.some.injEq] at h; subst h; exact hn nb (Nat.le_refl _) (by simp)
            · simp [Tree.get] at h
          · simp [Tree.get] at h
        · simp only [Tree.get, Option.some.injEq] at h; subst h; exact hn nb (Nat.le_refl _) (by simp)
        · simp [Tree.get] at h
      refine eff (Instr.box t (a.eval x)) rfl ?_
      obtain ⟨v, w', φ', h1, h2⟩ := alloc_ok (P := P) (get := get) h (cellsOf_ok hcs (hρ x)) hR hnb
      exact ⟨v, w', φ', h1, h2⟩
    · simp [Tree.get] at h
  · rename_i t parts
    obtain ⟨x, hx, rfl⟩ := get_valT h
    obtain ⟨v, h1, h2⟩ := build_ok (P := P) (w := w) hx (PL_map hρ parts.toList)
    refine pur (Instr.build t (parts.map fun (i, x) => (i, a.eval x))) rfl ⟨v, ?_, h2, rfl, rfl⟩
    rw [← h1]; congr 2
    apply Array.ext'; simp
  · rename_i t len parts
    have hb := buildSlice_ok (P := P) h (PL_map hρ parts.toList) hR hn
    refine eff (Instr.buildSlice t len (parts.map fun (i, x) => (i, a.eval x))) rfl ?_
    have e : (parts.map fun (x : Nat × Operand) => (x.1, a.eval x.2)) = (parts.toList.map fun q => (q.1, a.eval q.2)).toArray := by apply Array.ext'; simp
    have e' : (parts.map fun ((i, x) : Nat × Operand) => (i, a.eval x)) = (parts.toList.map fun q => (q.1, a.eval q.2)).toArray := e
    rw [e']; exact hb
  · rename_i t p
    obtain ⟨x, hx, rfl⟩ := get_valT h
    obtain ⟨v, h1, h2⟩ := loadE_ok (P := P) hx (hρ p) hR
    exact pur (Instr.loadAt t (a.eval p)) rfl ⟨v, h1, h2, rfl, rfl⟩
  · rename_i t p x
    split at h
    · rename_i u hu
      simp only [Tree.get, Option.some.injEq] at h
      subst h
      obtain ⟨w', h1, h2⟩ := store_ok (P := P) hu (hρ p) (hρ x) hR
      unfold Oper.wp
      have he : execOp a.eval ⟨dst, .store t p x, type, pos, after, guard⟩ = (do Instr.storeAt t (a.eval p) (a.eval x); pure .skip) := rfl
      rw [he]
      simp only [Sem.run_bind, h1, Result.andThen_ok, Sem.run_pure, Oper.upon]
      exact hK undef w' ⟨σ, φ, Store.le_refl σ, Places.le_refl φ, fun k hk _ => hk, V_any _, h2⟩
    · simp [Tree.get] at h
  · rename_i x
    split at h
    · rename_i hok
      obtain rfl := get_one h
      refine pur (pure (a.eval x)) ?_ (.mk rfl (hρ x))
      have hv := hρ x
      have he : ∀ (vx : Value), a.eval x = vx → ((∃ ad, vx = .pointer (some ad)) ∨ (∃ f p q, vx = .func (.func f) p q)) → execOp a.eval ⟨dst, .nilCheck x, type, pos, after, guard⟩ = (do pure (.value (← (pure (a.eval x) : Sem Value)))) := by
        intro vx hvx hor
        rcases hor with ⟨ad, rfl⟩ | ⟨f, p, q, rfl⟩ <;> (simp only [execOp, hvx]; rfl)
      refine he _ rfl ?_
      generalize hvx : a.eval x = vx at hv
      generalize hy : ρ x = y at hv hok
      cases hv with
      | base h0 => cases h0 <;> first | exact .inl ⟨_, rfl⟩ | simp [nilOk] at hok
      | ptr => exact .inl ⟨_, rfl⟩
      | ap => exact .inl ⟨_, rfl⟩
      | eptr => exact .inl ⟨_, rfl⟩
      | fn => exact .inr ⟨_, _, _, rfl⟩
      | _ => simp [nilOk] at hok
    · simp [Tree.get] at h
  · rename_i op t x y yt
    have he : execOp a.eval ⟨dst, .binOp op t x y yt, type, pos, after, guard⟩ = (do pure (.value (← (do eqGuard op t x y (a.eval x) (a.eval y); binOp op t (a.eval x) (a.eval y))))) := rfl
    exact pur _ he (binE_ok h (hρ x) (hρ y))
  · rename_i op t x
    exact pur (Op.unary op (a.eval x)) rfl (unE_ok h (hρ x))
  · rename_i s d x
    have he : execOp a.eval ⟨dst, .convert s d x, type, pos, after, guard⟩ = (do pure (.value (← convert s d (a.eval x)))) := rfl
    have hc := conv_ok (P := P) h (hρ x) hR hn
    exact eff _ he hc
  · rename_i f first cap
    obtain rfl := get_one h
    have h1 := VL_map hρ first.toList
    have h2 := VL_map hρ cap.toList
    exact pur (Instr.makeFunc (.func f) (first.map a.eval) (cap.map a.eval)) rfl (.mk rfl (.fn (by simp) (by simp)
      (fun j c y hc hy => h1.2 j c y hc (by simpa using hy)) (fun j c y hc hy => h2.2 j c y hc (by simpa using hy))))
  · rename_i t l c
    exact eff (Instr.makeSlice t (a.eval l) (a.eval c)) rfl (makeSlice_ok h (hρ l) (hρ c) hR hn)
  · rename_i t x lo hi mx
    exact eff (Instr.sliceAt t (a.eval x) (lo.map a.eval) (hi.map a.eval) (mx.map a.eval)) rfl (slice_ok h (hρ x) (VO_map hρ lo) (VO_map hρ hi) (VO_map hρ mx) hR hn)
  · rename_i s x f
    split at h
    · rename_i fd hfd
      split at h
      · rename_i m hm
        obtain ⟨q, hq, rfl⟩ := get_valT h
        obtain ⟨ad, had, hv⟩ := moveP_ok (σ := σ) (φ := φ) hq (hρ x)
        refine pur (Instr.fieldAt s (a.eval x) f) rfl (.mk ?_ hv)
        unfold fieldOf at hfd
        split at hfd
        · rename_i fields hu
          simp [Instr.fieldAt, run_underlying hu, hfd, had, Instr.sureAddr, fieldPlace, run_sizeOf hm]
        · simp at hfd
      · simp [Tree.get] at h
    · simp [Tree.get] at h
  · rename_i s x f
    split at h
    · rename_i fd cs hfd hx
      obtain ⟨q, hq, rfl⟩ := get_valT h
      have hv := hρ x; rw [hx] at hv
      obtain ⟨v, h1, h2⟩ := field_ok (P := P) (w := w) hfd hq hv
      exact pur (Instr.field s (a.eval x) f) rfl ⟨v, h1, h2, rfl, rfl⟩
    · simp [Tree.get] at h
  · rename_i t x ix
    exact pur (Instr.indexAt t (a.eval x) (a.eval ix)) rfl (indexAddr_ok h (hρ x) (hρ ix) hR)
  · rename_i t x ix
    exact pur (Instr.index t (a.eval x) (a.eval ix)) rfl (index_ok h (hρ x) (hρ ix))
  · rename_i x ix
    split at h
    · rename_i vs hx
      obtain ⟨q, hq, rfl⟩ := get_valT h
      have hv := hρ x; rw [hx] at hv
      obtain ⟨v, h1, h2⟩ := extract_ok (P := P) (w := w) hq hv
      exact pur (Instr.extract (a.eval x) ix) rfl ⟨v, h1, h2, rfl, rfl⟩
    · simp [Tree.get] at h
  · rename_i c
    split at h
    · rename_i b hcal
      have hrun : ∀ (f : Array TypeId → TypeId → Array Value → Sem Value), builtin b c.argTypes type (c.args.map fun | .const _ => true | _ => false) (c.args.map a.eval) = (do pure (.value (← f c.argTypes type (c.args.map a.eval)))) →
          execOp a.eval ⟨dst, .call c, type, pos, after, guard⟩ = (do pure (.value (← f c.argTypes type (c.args.map a.eval)))) := by
        intro f hf
        simp only [execOp, resolve, hcal]
        rw [← hf]; rfl
      have hargs : ∀ xs, c.args.toList.map ρ = xs → ∃ vs : List Value, c.args.map a.eval = vs.toArray ∧ VL σ φ xs vs := by
        intro xs hxs
        exact ⟨c.args.toList.map a.eval, by apply Array.ext'; simp, hxs ▸ VL_map hρ c.args.toList⟩
      split at h
      · rename_i s x hxs
        obtain ⟨vs, hvs, hvl⟩ := hargs _ hxs
        match vs, hvl.1 with
        | [v1, v2], _ =>
          refine eff (Builtin.append_ c.argTypes type (c.args.map a.eval)) (hrun _ rfl) ?_
          rw [hvs]; exact append_ok h (hvl.2 0 _ _ rfl rfl) (hvl.2 1 _ _ rfl rfl) hR hn
      · rename_i s x hxs
        obtain ⟨vs, hvs, hvl⟩ := hargs _ hxs
        match vs, hvl.1 with
        | [v1, v2], _ =>
          refine eff (Builtin.copy_ c.argTypes type (c.args.map a.eval)) (hrun _ rfl) ?_
          rw [hvs]; exact copy_ok h (hvl.2 0 _ _ rfl rfl) (hvl.2 1 _ _ rfl rfl) hR
      · rename_i x hxs
        obtain ⟨vs, hvs, hvl⟩ := hargs _ hxs
        match vs, hvl.1 with
        | [v1], _ =>
          refine pur (Builtin.len_ c.argTypes type (c.args.map a.eval)) (hrun _ rfl) ?_
          rw [hvs]; exact len_ok h (hvl.2 0 _ _ rfl rfl) hR
      · rename_i x hxs
        obtain ⟨vs, hvs, hvl⟩ := hargs _ hxs
        match vs, hvl.1 with
        | [v1], _ =>
          refine eff (Builtin.clear_ c.argTypes type (c.args.map a.eval)) (hrun _ rfl) ?_
          rw [hvs]; exact clear_ok h (hvl.2 0 _ _ rfl rfl) hR
      · rename_i x xs hxs
        obtain ⟨vs, hvs, hvl⟩ := hargs _ hxs
        obtain ⟨q, hq, rfl⟩ := get_valT h
        match vs, hvl with
        | v1 :: vs, hvl =>
          obtain ⟨u, h1, h2⟩ := min_ok (P := P) (w := w) hq (hvl.2 0 _ _ rfl rfl) (vs := vs) ⟨by have := hvl.1; simpa using this, fun j c y hc hy => hvl.2 (j + 1) c y (by simpa using hc) (by simpa using hy)⟩
          refine pur (Builtin.min_ c.argTypes type (c.args.map a.eval)) (hrun _ rfl) ⟨u, ?_, h2, rfl, rfl⟩
          rw [hvs]; exact h1
        | [], hvl => have := hvl.1; simp at this
      · rename_i x xs hxs
        obtain ⟨vs, hvs, hvl⟩ := hargs _ hxs
        obtain ⟨q, hq, rfl⟩ := get_valT h
        match vs, hvl with
        | v1 :: vs, hvl =>
          obtain ⟨u, h1, h2⟩ := max_ok (P := P) (w := w) hq (hvl.2 0 _ _ rfl rfl) (vs := vs) ⟨by have := hvl.1; simpa using this, fun j c y hc hy => hvl.2 (j + 1) c y (by simpa using hc) (by simpa using hy)⟩
          refine pur (Builtin.max_ c.argTypes type (c.args.map a.eval)) (hrun _ rfl) ⟨u, ?_, h2, rfl, rfl⟩
          rw [hvs]; exact h1
        | [], hvl => have := hvl.1; simp at this
      · simp [Tree.get] at h
    · rename_i f hcal
      split at h
      · rename_i fid first cap hf
        have hv := hρ f; rw [hf] at hv
        generalize hev' : a.eval f = vf at hv
        cases hv with
        | base h0 => cases h0
        | @fn _ _ _ xs ys hl1 hl2 h1 h2 =>
          unfold callE at h
          split at h
          · rename_i ct hct
            split at h
            · rename_i ids hids
              split at h
              · rename_i bs hbs
                obtain ⟨r, hr, hout⟩ := Tree.get_bind_some h
                simp only [Tree.get, Option.some.injEq] at hout
                subst hout
                have hfid := findCT_ok hct
                subst hfid
                have hvl : VL σ φ (first ++ c.args.toList.map ρ ++ cap) (xs ++ c.args.map a.eval ++ ys).toList := by
                  have e : (xs ++ c.args.map a.eval ++ ys).toList = xs.toList ++ c.args.toList.map a.eval ++ ys.toList := by simp
                  rw [e]
                  exact ((VL_of_agg hl1 h1).append (VL_map hρ _)).append (VL_of_agg hl2 h2)
                have hcalls := call_embed (P := P) (nb := nb) hG hR hvl hids hbs (ct.ok _ _ _ hr) (by simpa using hn)
                unfold Oper.wp
                have he : (execOp a.eval ⟨dst, .call c, type, pos, after, guard⟩).run P w = .ok (.enter ct.f (xs ++ c.args.map a.eval ++ ys)) w := by
                  simp only [execOp, resolve, hcal, hev', Deferred.ofValue, Sem.run_bind, Sem.run_pure, Result.andThen_ok, invoke]
                  exact ct.enters _ w
                rw [he]
                simp only [Oper.upon]
                refine hcalls.mono ?_
                rintro e w' ⟨v, rfl, hpost⟩
                exact hK v w' hpost
              · simp [Tree.get] at h
            · simp [Tree.get] at h
          · simp [Tree.get] at h
      · simp [Tree.get] at h
    · simp [Tree.get] at h
  · rename_i t x
    exact eff (Instr.range t (a.eval x)) rfl (range_ok (P := P) h (hρ x) hR hn)
  · rename_i it str
    exact eff (Instr.next (a.eval it) str type) rfl (next_ok (P := P) h (hρ it) hR)
  · rename_i t r
    exact eff (Instr.makeMap t (r.map a.eval)) rfl (makeMap_ok (P := P) h (fun e => by cases r with | none => rfl | some x => simp [mapOpt] at e) hR hn)
  · rename_i t x ix ok
    exact pur (Instr.lookup t (a.eval x) (a.eval ix) ok) rfl (lookup_ok (P := P) h (hρ x) (hρ ix) hR)
  · rename_i t m k x
    obtain ⟨i, b, w', rfl, _, h1, h2⟩ := mapUpd_ok (P := P) h (hρ m) (hρ k) (hρ x) hR
    unfold Oper.wp
    have he : execOp a.eval ⟨dst, .mapUpdate t m k x, type, pos, after, guard⟩ = (do Instr.mapUpdate t (a.eval m) (a.eval k) (a.eval x); pure .skip) := rfl
    rw [he]
    simp only [Sem.run_bind, h1, Result.andThen_ok, Sem.run_pure, Oper.upon]
    exact hK undef w' ⟨σ, φ, Store.le_refl σ, Places.le_refl φ, fun k hk _ => hk, V_any _, h2⟩
  · simp [Tree.get] at h
end
end Go.Eng
