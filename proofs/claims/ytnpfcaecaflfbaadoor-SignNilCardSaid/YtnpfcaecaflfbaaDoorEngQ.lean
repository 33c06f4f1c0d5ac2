/- An abstract evaluator of the model's code, part Q: a call's contract in its caller; every operation. -/
import Derived.Test.YtnpfcaecaflfbaaDoorEngP
namespace Go.Eng
open Go
set_option linter.unusedSimpArgs false
set_option linter.unusedVariables false

section
variable {P : Program} {Γ : Nat → AV} {κ : Ctx} {σ : Store} {φ : Places} {get : Get} {w : World} {nb : Nat}

/-- what an operation leaves behind -/
def Post (κ : Ctx) (σ : Store) (φ : Places) (nb : Nat) (get : Get) (out : OpOut) (v : Value) (w' : World) : Prop :=
  ∃ σ' φ', σ.le σ' ∧ φ.le φ' ∧ (∀ k, φ k = none → (k < nb ∨ nb + out.new.length ≤ k) → φ' k = none) ∧ V σ' φ' out.val v ∧
    R κ σ' φ' (newGs (updGs get out.upd) nb out.new) w'

theorem getH_heap {Hin : List Blk} {r : Res} {k : Nat} : getH (r.heap Hin) k =
    if k < Hin.length then (match r.upd[k]?.join with | some x => x | none => Hin[k]?) else r.new[k - Hin.length]? := by
  unfold getH Res.heap
  split
  · rename_i x hx
    by_cases hk : k < Hin.length
    · rw [if_pos hk]
      rw [List.getElem?_append_left (by rw [outOf_len]; exact hk), outOf_get] at hx
      rw [List.getElem?_eq_getElem hk] at hx ⊢
      simp only [Option.some.injEq] at hx
      rw [← hx]
      cases r.upd[k]?.join <;> rfl
    · rw [if_neg hk]
      rw [List.getElem?_append_right (by rw [outOf_len]; omega), outOf_len] at hx
      simp only [List.getElem?_map, Option.map_eq_some_iff] at hx
      obtain ⟨b, hb, rfl⟩ := hx
      exact hb.symm
  · rename_i hx
    by_cases hk : k < Hin.length
    · rw [List.getElem?_append_left (by rw [outOf_len]; exact hk), outOf_get] at hx
      rw [List.getElem?_eq_getElem hk] at hx
      simp at hx
    · rw [if_neg hk]
      rw [List.getElem?_append_right (by rw [outOf_len]; omega), outOf_len] at hx
      rw [List.getElem?_map] at hx
      cases hr : r.new[k - Hin.length]? with
      | none => rfl
      | some b => rw [hr] at hx; simp at hx

mutual
theorem ren_back {r s : Nat → Nat} : ∀ (x : AV), (∀ i ∈ x.ids, s (r i) = i) → (x.ren r).ren s = x
  | .any, _ => rfl
  | .v _, _ => rfl
  | .sb _, _ => rfl
  | .agg cs, h => by simp only [AV.ren]; rw [renL_back cs (by simpa only [AV.ids] using h)]
  | .tup cs, h => by simp only [AV.ren]; rw [renL_back cs (by simpa only [AV.ids] using h)]
  | .ptr i o, h => by simp only [AV.ren]; rw [h i (by simp [AV.ids])]
  | .ap i, h => by simp only [AV.ren]; rw [h i (by simp [AV.ids])]
  | .eptr i e o, h => by simp only [AV.ren]; rw [h i (by simp [AV.ids])]
  | .hs i e n, h => by simp only [AV.ren]; rw [h i (by simp [AV.ids])]
  | .sl _ _ _, _ => rfl
  | .pp _, _ => rfl
  | .pa _ _ _, _ => rfl
  | .fn f a b, h => by
    simp only [AV.ren]
    rw [renL_back a (fun i hi => h i (by simp [AV.ids, hi])), renL_back b (fun i hi => h i (by simp [AV.ids, hi]))]
  | .map i, h => by simp only [AV.ren]; rw [h i (by simp [AV.ids])]
  | .its i, h => by simp only [AV.ren]; rw [h i (by simp [AV.ids])]
theorem renL_back {r s : Nat → Nat} : ∀ (cs : List AV), (∀ i ∈ AV.idsL cs, s (r i) = i) → AV.renL s (AV.renL r cs) = cs
  | [], _ => rfl
  | c :: cs, h => by
    simp only [AV.renL]
    rw [ren_back c (fun i hi => h i (by simp [AV.idsL, hi])), renL_back cs (fun i hi => h i (by simp [AV.idsL, hi]))]
end
theorem blkRen_back {r s : Nat → Nat} {b : Blk} (h : ∀ i ∈ blkIds b, s (r i) = i) : blkRen s (blkRen r b) = b := by
  cases b with
  | row cs => simp only [blkRen]; rw [renL_back cs h]
  | _ => rfl

theorem call_embed {f : FuncId} {args : List AV} {vals : Array Value} {ids : List Nat} {bs : List Blk} {r : Res} (hG : Globals Γ σ) (hR : R κ σ φ get w) (hv : VL σ φ args vals.toList)
    (hids : reach get 1000 (AV.idsL args) [] = some ids) (hb : blocksAt get ids = some bs)
    (hC : Contract P Γ f (AV.renL (fun i => posIn i ids) args) (bs.map (blkRen fun i => posIn i ids)) r) (hnb : ∀ k, nb ≤ k → k < nb + r.new.length → φ k = none) :
    Calls P f vals w fun e w' => ∃ v, e = .returned v ∧
      Post κ σ φ nb get { val := r.val.ren (backIn ids nb), upd := updsOf (backIn ids nb) ids r.upd, new := r.new.map (blkRen (backIn ids nb)) } v w' := by
  obtain ⟨hn, _, htodo, hsome, hclosed⟩ := reach_ok _ _ _ _ hids (by simp) (by simp) (by simp)
  obtain ⟨hl, hbs⟩ := blocksAt_ok hb
  have hloc := hR.local hn hb hclosed
  have hargs : VL σ (fun (k : Nat) => ids[k]?.bind φ) (AV.renL (fun i => posIn i ids) args) vals.toList := hv.ren fun i hi L hL => by
    simp [posIn_get (htodo i hi), hL]
  have hlen : (bs.map (blkRen fun i => posIn i ids)).length = ids.length := by simp [hl]
  refine (hC σ _ w vals hG hargs (fun k hk => by rw [hlen] at hk; simp [List.getElem?_eq_none hk]) hloc).mono ?_
  rintro e w' ⟨σ', φl, v, rfl, hvv, hR', hsame, hnone⟩
  rw [hlen] at hsame
  have hheaplen : (r.heap (bs.map (blkRen fun i => posIn i ids))).length = ids.length + r.new.length := by
    unfold Res.heap; rw [List.length_append, outOf_len, hlen]; simp
  rw [hheaplen] at hnone
  let φ' : Places := fun i => if nb ≤ i ∧ i < nb + r.new.length then φl (ids.length + (i - nb)) else φ i
  have hle : φ.le φ' := fun i L hi => by
    have : ¬ (nb ≤ i ∧ i < nb + r.new.length) := fun h => by rw [hnb i h.1 h.2] at hi; simp at hi
    show (if _ then _ else _) = _
    rw [if_neg this]; exact hi
  have hback : ∀ k L, φl k = some L → φ' (backIn ids nb k) = some L := by
    intro k L hk
    unfold backIn
    by_cases hlt : k < ids.length
    · have hg : ids[k]? = some ids[k] := by simp [hlt]
      simp only [hg]
      apply hle
      have := hsame k hlt
      rw [hk, hg] at this
      simpa using this.symm
    · have hg : ids[k]? = none := by simp [Nat.le_of_not_lt hlt]
      simp only [hg]
      have hk2 : k < ids.length + r.new.length := by
        rcases Nat.lt_or_ge k (ids.length + r.new.length) with h | h
        · exact h
        · rw [hnone k h] at hk; simp at hk
      show (if _ then _ else _) = _
      rw [if_pos (by omega), show ids.length + (nb + (k - ids.length) - nb) = k by omega]
      exact hk
  -- the caller's blocks behind the call
  have hget : ∀ j, newGs (updGs get (updsOf (backIn ids nb) ids r.upd)) nb (r.new.map (blkRen (backIn ids nb))) j =
      if nb ≤ j ∧ j < nb + r.new.length then (r.new[j - nb]?).map (blkRen (backIn ids nb)) else
      (match (if j ∈ ids then r.upd[posIn j ids]?.join else none) with
        | some x => x.map (blkRen (backIn ids nb))
        | none => get j) := by
    intro j
    rw [newGs_get, updGs_get _ _ _ _ _ hn]
    simp only [List.length_map, List.getElem?_map]
    rfl
  -- each placed number is a local one or one that the call did not see
  have split3 : ∀ j L, φ' j = some L → (∃ k, φl k = some L ∧ (∀ b, newGs (updGs get (updsOf (backIn ids nb) ids r.upd)) nb (r.new.map (blkRen (backIn ids nb))) j = some b →
        (∃ b0, getH (r.heap (bs.map (blkRen fun i => posIn i ids))) k = some b0 ∧ (b = blkRen (backIn ids nb) b0 ∨ (get j = some b ∧ j ∈ ids ∧ b0 = blkRen (fun i => posIn i ids) b))) ) ∧ j = backIn ids nb k ∧ (k < ids.length → ids[k]? = some j) ∧ (¬ k < ids.length → nb ≤ j ∧ j < nb + r.new.length ∧ k = ids.length + (j - nb))) ∨
      (j ∉ ids ∧ φ j = some L ∧ newGs (updGs get (updsOf (backIn ids nb) ids r.upd)) nb (r.new.map (blkRen (backIn ids nb))) j = get j ∧ ¬ (nb ≤ j ∧ j < nb + r.new.length)) := by
    intro j L hj
    by_cases hin : nb ≤ j ∧ j < nb + r.new.length
    · refine .inl ⟨ids.length + (j - nb), ?_, fun b hgb => ?_, ?_, fun h => by omega, fun _ => ⟨hin.1, hin.2, rfl⟩⟩
      · have : φ' j = φl (ids.length + (j - nb)) := if_pos hin
        rw [← this]; exact hj
      · rw [hget, if_pos hin] at hgb
        simp only [Option.map_eq_some_iff] at hgb
        obtain ⟨b0, hb0, rfl⟩ := hgb
        refine ⟨b0, ?_, .inl rfl⟩
        rw [getH_heap, hlen, if_neg (by omega), show ids.length + (j - nb) - ids.length = j - nb by omega]
        exact hb0
      · unfold backIn
        have : ids[ids.length + (j - nb)]? = none := by simp
        simp only [this]; omega
    · have hj' : φ j = some L := by
        have : φ' j = φ j := if_neg hin
        rw [← this]; exact hj
      by_cases hm : j ∈ ids
      · have hp := posIn_get hm
        have hlt : posIn j ids < ids.length := (List.getElem?_eq_some_iff.1 hp).1
        refine .inl ⟨posIn j ids, ?_, fun b hgb => ?_, ?_, fun _ => hp, fun h => absurd hlt h⟩
        · rw [hsame _ hlt]; simp [hp, hj']
        · rw [hget, if_neg hin, if_pos hm] at hgb
          rw [getH_heap, hlen, if_pos hlt]
          cases hu : r.upd[posIn j ids]?.join with
          | none =>
            rw [hu] at hgb
            simp only at hgb
            obtain ⟨b1, h1, h2⟩ := hbs _ _ hp
            rw [hgb] at h2; cases h2
            exact ⟨blkRen (fun i => posIn i ids) b, by simp [h1], .inr ⟨hgb, hm, rfl⟩⟩
          | some x =>
            rw [hu] at hgb
            simp only [Option.map_eq_some_iff] at hgb
            obtain ⟨b0, rfl, rfl⟩ := hgb
            exact ⟨b0, rfl, .inl rfl⟩
        · unfold backIn; simp only [hp]
      · refine .inr ⟨hm, hj', ?_, hin⟩
        rw [hget, if_neg hin, if_neg hm]
  have blkBack : ∀ j b b0 L, (b = blkRen (backIn ids nb) b0 ∨ (get j = some b ∧ j ∈ ids ∧ b0 = blkRen (fun i => posIn i ids) b)) → blkAt σ' φl w' L b0 → blkAt σ' φ' w' L b := by
    intro j b b0 L hor h0
    rcases hor with rfl | ⟨hg, hji, rfl⟩
    · exact blkAt_ren h0 fun i _ K hK => hback i K hK
    · -- the block that stayed: there and back
      have h1 := blkAt_ren (φ' := φ') (r := backIn ids nb) h0 fun i _ K hK => hback i K hK
      have e : blkRen (backIn ids nb) (blkRen (fun i => posIn i ids) b) = b := blkRen_back fun i hi => by
        have := hclosed j hji b hg i hi
        unfold backIn; simp only [posIn_get this]
      rw [e] at h1; exact h1
  have wfBack : ∀ j b b0, (b = blkRen (backIn ids nb) b0 ∨ (get j = some b ∧ j ∈ ids ∧ b0 = blkRen (fun i => posIn i ids) b)) → (blkWf b0 → blkWf b) ∧ (∀ sz n f, b = .arr sz n f → b0 = .arr sz n f) := by
    intro j b b0 hor
    rcases hor with rfl | ⟨_, _, rfl⟩
    · exact ⟨blkWf_ren, fun sz n f h => blkRen_arr h⟩
    · exact ⟨fun h => by cases b <;> exact h, fun sz n f h => by subst h; rfl⟩
  have hBmine : ∀ b, (∃ (k : Nat) (L : Lc), (ids[k]?.bind φ) = some L ∧ L.virt = false ∧ L.b = b) → ∃ j L, j ∈ ids ∧ φ j = some L ∧ L.virt = false ∧ L.b = b := by
    rintro b ⟨k, L, hk, hv, rfl⟩
    cases hg : ids[k]? with
    | none => simp [hg] at hk
    | some j => exact ⟨j, L, List.mem_of_getElem? hg, by simpa [hg] using hk, hv, rfl⟩
  -- blocks that the call did not see keep apart from those that it had or made
  have other : ∀ j L, j ∉ ids → φ j = some L → L.virt = false → (get j).isSome → L.b < w.heap.size ∧ ¬ (∃ (k : Nat) (L' : Lc), (ids[k]?.bind φ) = some L' ∧ L'.virt = false ∧ L'.b = L.b) := by
    intro j L hj hp hv hg
    refine ⟨hR.lt j L hp hv, fun hB => ?_⟩
    obtain ⟨j', L', hj', hp', hv', hb'⟩ := hBmine _ hB
    exact hR.dis j' j L' L (fun e => hj (e ▸ hj')) (hsome j' hj') hg hp' hp hv' hv hb'
  refine ⟨v, rfl, σ', φ', hR'.base, hle, fun k hk hkk => ?_, hvv.ren fun i _ L hL => hback i L hL, ?_⟩
  · have : ¬ (nb ≤ k ∧ k < nb + r.new.length) := by simp only [List.length_map] at hkk; omega
    show (if _ then _ else _) = _
    rw [if_neg this]; exact hk
  · refine ⟨hR'.cell, fun j L hj hv hg o => ?_, fun j b L hg hj hv => ?_, fun i j Li Lj hne hi hj pi pj vi vj => ?_, fun j L hj hv => ?_, hR'.tape.trans hR.tape, hR'.os.trans hR.os, hR'.output.trans hR.output,
      Nat.le_trans hR.grow hR'.grow, fun b hb' hB => ?_, fun b o y hy => ?_, fun j L hj hv => ?_, Store.le_trans hR.base hR'.base, fun j b hg => ?_, fun j L sz n f hg hj => ?_⟩
    · rcases split3 j L hj with ⟨k, hk, hb3, _⟩ | ⟨hm, hp, hgj, _⟩
      · obtain ⟨b, hb4⟩ := Option.isSome_iff_exists.1 hg
        obtain ⟨b0, hb0, _⟩ := hb3 b hb4
        exact hR'.apart k L hk hv (by simp [hb0]) o
      · rw [hgj] at hg
        obtain ⟨h1, h2⟩ := other j L hm hp hv hg
        cases hy : σ' L.b o with
        | none => rfl
        | some y =>
          rcases hR'.store _ _ _ hy with h | h | h
          · have h' : σ L.b o = some y := h
            rw [hR.apart j L hp hv hg o] at h'; simp at h'
          · exact absurd h h2
          · exact absurd h1 (Nat.not_lt.2 h)
    · rcases split3 j L hj with ⟨k, hk, hb3, _⟩ | ⟨hm, hp, hgj, _⟩
      · obtain ⟨b0, hb0, hor⟩ := hb3 b hg
        exact blkBack j b b0 L hor (hR'.obj k b0 L hb0 hk hv)
      · rw [hgj] at hg
        obtain ⟨h1, h2⟩ := other j L hm hp hv (by simp [hg])
        exact blkAt_mono hR'.base hle (hR'.old _ h1 h2) (hR.obj j b L hg hp hv)
    · rcases split3 i Li pi with ⟨k, hk, hb3, hki, hkin, hkout⟩ | ⟨hm, hp, hgi, hnfi⟩
      · obtain ⟨b, hb4⟩ := Option.isSome_iff_exists.1 hi
        obtain ⟨b0, hb0, _⟩ := hb3 b hb4
        rcases split3 j Lj pj with ⟨k', hk', hb3', hkj, hkin', hkout'⟩ | ⟨hm', hp', hgj, hnfj⟩
        · obtain ⟨b', hb4'⟩ := Option.isSome_iff_exists.1 hj
          obtain ⟨b0', hb0', _⟩ := hb3' b' hb4'
          exact hR'.dis k k' Li Lj (fun e => hne (by rw [hki, hkj, e])) (by simp [hb0]) (by simp [hb0']) hk hk' vi vj
        · rw [hgj] at hj
          obtain ⟨h1, h2⟩ := other j Lj hm' hp' vj hj
          intro e
          rcases hR'.mine k Li hk vi with h | h
          · rw [e] at h; exact h2 h
          · rw [e] at h; exact absurd h1 (Nat.not_lt.2 h)
      · rw [hgi] at hi
        obtain ⟨h1, h2⟩ := other i Li hm hp vi hi
        rcases split3 j Lj pj with ⟨k', hk', hb3', _⟩ | ⟨hm', hp', hgj, _⟩
        · intro e
          rcases hR'.mine k' Lj hk' vj with h | h
          · rw [← e] at h; exact h2 h
          · rw [← e] at h; exact absurd h1 (Nat.not_lt.2 h)
        · rw [hgj] at hj
          exact hR.dis i j Li Lj hne hi hj hp hp' vi vj
    · rcases split3 j L hj with ⟨k, hk, _⟩ | ⟨_, hp, _⟩
      · exact hR'.lt k L hk hv
      · exact Nat.lt_of_lt_of_le (hR.lt j L hp hv) hR'.grow
    · have hlt : b < w.heap.size := Nat.lt_of_lt_of_le hb' hR.grow
      rw [← hR.old b hb' hB]
      refine hR'.old b hlt fun hBl => ?_
      obtain ⟨j, L, _, hp, hv, rfl⟩ := hBmine _ hBl
      rcases hR.mine j L hp hv with h | h
      · exact hB h
      · exact absurd hb' (Nat.not_lt.2 h)
    · rcases hR'.store b o y hy with h | h | h
      · exact hR.store b o y h
      · obtain ⟨j, L, _, hp, hv, rfl⟩ := hBmine _ h
        exact .inr (hR.mine j L hp hv)
      · exact .inr (.inr (Nat.le_trans hR.grow h))
    · rcases split3 j L hj with ⟨k, hk, _⟩ | ⟨_, hp, _⟩
      · rcases hR'.mine k L hk hv with h | h
        · obtain ⟨j', L', _, hp', hv', hb'⟩ := hBmine _ h
          rw [← hb']; exact hR.mine j' L' hp' hv'
        · exact .inr (Nat.le_trans hR.grow h)
      · exact hR.mine j L hp hv
    · rw [hget] at hg
      split at hg
      · simp only [Option.map_eq_some_iff] at hg
        obtain ⟨b0, hb0, rfl⟩ := hg
        rename_i hin
        refine blkWf_ren (hR'.wf (ids.length + (j - nb)) b0 ?_)
        rw [getH_heap, hlen, if_neg (by omega), show ids.length + (j - nb) - ids.length = j - nb by omega]
        exact hb0
      · split at hg
        · rename_i x hx
          split at hx
          · rename_i hm
            simp only [Option.map_eq_some_iff] at hg
            obtain ⟨b0, rfl, rfl⟩ := hg
            refine blkWf_ren (hR'.wf (posIn j ids) b0 ?_)
            have hlt : posIn j ids < ids.length := (List.getElem?_eq_some_iff.1 (posIn_get hm)).1
            rw [getH_heap, hlen, if_pos hlt, hx]
          · simp at hx
        · exact hR.wf j b hg
    · rcases split3 j L hj with ⟨k, hk, hb3, _⟩ | ⟨hm, hp, hgj, _⟩
      · obtain ⟨b0, hb0, hor⟩ := hb3 _ hg
        have := (wfBack j _ b0 hor).2 sz n f rfl
        subst this
        exact hR'.len k L sz n f hb0 hk
      · rw [hgj] at hg
        exact hR.len j L sz n f hg hp
end
end Go.Eng
