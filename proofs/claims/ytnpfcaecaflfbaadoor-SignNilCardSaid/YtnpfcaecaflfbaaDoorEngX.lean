/- An abstract evaluator of the model's code, part X: from a contract to a law's row. -/
import Derived.Test.YtnpfcaecaflfbaaDoorEngW
import Derived.ProofKit
import Derived.ReadAgain
import Derived.ChangeBears
import Derived.ChangeSame
import Derived.OpenShut
import Derived.RowKit
import Derived.Lib.LaidTab
namespace Go.Eng
open Go
set_option linter.unusedSimpArgs false
set_option linter.unusedVariables false

/-- what was there is there still -/
def OldSame (W W' : World) : Prop := W'.os = W.os ∧ W'.output = W.output ∧ ∀ b, b < W.heap.size → W'.heap[b]? = W.heap[b]?

/-- what a world's cells hold -/
def σof (W : World) : Store := fun b o => if b < W.heap.size then W.cell? ⟨b, o, none⟩ else none
theorem lt_of_cell {W : World} {b o : Nat} {y : Value} (h : W.cell? ⟨b, o, none⟩ = some y) : b < W.heap.size := by
  unfold World.cell? at h
  by_cases hb : b < W.heap.size
  · exact hb
  · have : W.heap[b]? = none := Array.getElem?_eq_none (by omega)
    simp [this] at h
theorem σof_of {W : World} {b o : Nat} {y : Value} (h : W.cell? ⟨b, o, none⟩ = some y) : σof W b o = some y := by
  unfold σof; rw [if_pos (lt_of_cell h)]; exact h
theorem σof_cell {W : World} {b o : Nat} {y : Value} (h : σof W b o = some y) : W.cell? ⟨b, o, none⟩ = some y ∧ b < W.heap.size := by
  unfold σof at h
  split at h
  · exact ⟨h, by assumption⟩
  · simp at h

section
variable {P : Program} {Γ : Nat → AV}

theorem R_start (W : World) : R ⟨W, σof W, fun b => ∃ (k : Nat) (L : Lc), (none : Option Lc) = some L ∧ L.virt = false ∧ L.b = b⟩ (σof W) (fun _ => none) (getH ([] : List (Option Blk))) W where
  cell := fun b o y hy => (σof_cell hy).1
  apart := fun i L hi => by simp at hi
  obj := fun i blk L _ hi => by simp at hi
  dis := fun i j Li Lj _ _ _ hi => by simp at hi
  lt := fun i L hi => by simp at hi
  tape := rfl
  os := rfl
  output := rfl
  grow := Nat.le_refl _
  old := fun _ _ _ => rfl
  store := fun b o y hy => .inl hy
  mine := fun i L hi => by simp at hi
  base := Store.le_refl _
  wf := fun i b h => by simp [getH] at h
  len := fun i L sz n f h => by simp [getH] at h

theorem VL.none {σ : Store} {φ : Places} : VL σ φ [] [] := ⟨rfl, fun j c y h => by simp at h⟩
theorem VL.one {σ : Store} {φ : Places} {x : AV} {y : Value} {xs : List AV} {ys : List Value} (h : V σ φ x y) (hs : VL σ φ xs ys) : VL σ φ (x :: xs) (y :: ys) :=
  ⟨by simp [hs.1], fun j c z hc hz => by
    cases j with
    | zero => simp at hc hz; subst hc; subst hz; exact h
    | succ j => exact hs.2 j c z (by simpa using hc) (by simpa using hz)⟩
/-- **a law's call, out of its contract** -/
theorem calls_true (c : CT P Γ) {xs : List AV} {vals : Array Value} {W : World} (h : (c.spec xs []).sat fun r => AV.le r.val (.v (.bool true))) (hG : Globals Γ (σof W))
    (hv : VL (σof W) (fun _ => none) xs vals.toList) : Calls P c.f vals W fun e W' => e = .returned (.bool true) ∧ OldSame W W' := by
  obtain ⟨r, hr, hle⟩ := Tree.sat_iff.1 h
  have := c.ok xs [] r hr (σof W) (fun _ => none) W vals hG hv (fun _ _ => rfl) (by simpa using R_start W)
  refine this.mono fun e W' ⟨σ', φ', v, he, hV, hR, _, _⟩ => ?_
  have hv' := (hle.v hV).v_eq
  subst hv'
  exact ⟨he, hR.os, hR.output, fun b hb => hR.old b hb (by simp)⟩
end

/-! ### the row -/
section
variable {H : Type} {enc : TypeId × Value → H} {P : Program} {W W' : World}

theorem OldSame.sameAt (h : OldSame W W') {p : MemPlace} (hp : p.block < W.heap.size) : W.sameAt W' p := by
  cases p with
  | cell b off =>
    show W'.cell? _ = W.cell? _
    unfold World.cell?
    rw [h.2.2 b hp]
  | map b => exact h.2.2 b hp
theorem TrodAll_carry {base : Nat} {sp : Nat → Bool} {held : Bool} : ∀ {ts : List TypeId} {vs : List Value} {ds : List (DataW H)} {ps : List MemPlace},
    DataW.TrodAll enc P W base sp held ts vs ds ps → (∀ p ∈ ps, W.sameAt W' p) → DataW.TrodAll enc P W' base sp held ts vs ds ps
  | [], [], [], _, h, _ => h
  | _ :: _, _ :: _, _ :: _, _, ⟨p, q, ⟨n, h1⟩, h2, e⟩, hs =>
    ⟨p, q, ⟨n, DataW.trod_carry n _ _ _ h1 fun x hx => hs x (by rw [e]; exact List.mem_append_left _ hx)⟩, TrodAll_carry h2 fun x hx => hs x (by rw [e]; exact List.mem_append_right _ hx), e⟩
  | [], _ :: _, _, _, h, _ => by simp [DataW.TrodAll] at h
  | [], [], _ :: _, _, h, _ => by simp [DataW.TrodAll] at h
  | _ :: _, [], _, _, h, _ => by simp [DataW.TrodAll] at h
  | _ :: _, _ :: _, [], _, h, _ => by simp [DataW.TrodAll] at h

theorem OldSame.kept (h : OldSame W W') (may : MemPlace → Prop) : W.keptBut W' may := by
  refine ⟨h.1, h.2.1, fun i hi => ?_⟩
  rw [h.2.2 i hi]
  cases ho : W.heap[i]? with
  | none => rfl
  | some o => cases o <;> simp

/-- **what a law's row asks behind the call** -/
theorem post_true {f : Func} {s : ChangeSpec} {apart fresh handsOn again : Bool} {args : Array Value} {ds gs : List (DataW H)} {before : List MemPlace} {tb : TypeId}
    (hl : laidOutB P = true) (hm : mapsRowed P = true) (hz : ((List.range P.types.size).all fun t => match P.underlying t with | some (.slice e) => decide (0 < P.cellsOf e) | _ => true) = true)
    (hp : (f.params.toList.all fun t => decide (t < P.types.size)) = true) (hrt : f.resultTypes = #[tb]) (hb : P.underlying tb = some .bool)
    (hW : DataW.Whole enc P f.params.toList s.vars apart W args.toList ds gs before) (hvars : s.vars = [])
    (hfn : (s.fn H (ds ++ gs)) = { results := [.lit (.bool true)], args := ds }) (ho : OldSame W W') : s.post enc P f apart fresh handsOn again W args (.bool true) W' := by
  have hW0 := hW
  obtain ⟨p, q, hA, hV, rfl, hfz, hnd⟩ := hW
  rw [hvars] at hV
  obtain ⟨rfl, rfl⟩ := ChangeShapes.trodVars_none hV
  have hlt : ∀ x ∈ p, x.block < W.heap.size := fun x hx => hW0.lt x (by simp [hx])
  have hsz : ∀ t e, t < P.types.size → P.underlying t = some (.slice e) → 0 < P.cellsOf e := slices_full_of P hz
  have hres : ∀ (b : Nat) (sp : Nat → Bool) (hd : Bool), DataW.TrodAll enc P W' b sp hd f.resultTypes.toList ((Value.bool true).resultList f.resultTypes.size) (s.fn H (ds ++ [])).results [] := fun b sp hd => by
    rw [hrt, hfn]
    exact ChangeShapes.trodAll_mk1 (RowKit.shut_bool hb true)
  have hargs : ∀ sp : Nat → Bool, (∀ x ∈ p, sp x.block = true) → DataW.TrodAll enc P W' 0 sp true f.params.toList args.toList (s.fn H (ds ++ [])).args p := fun sp hsp => by
    rw [hfn]
    refine DataW.TrodAll.respare (kids_rows hl hm) hsz (fun t ht => ?_) (TrodAll_carry hA fun x hx => ho.sameAt (hlt x hx)) hsp
    simpa using List.all_eq_true.1 hp t ht
  have hvr : ∀ sp : Nat → Bool, DataW.TrodVars enc P W' sp s.vars (s.fn H (ds ++ [])).vars [] := fun sp => by rw [hfn, hvars]; rfl
  refine ⟨ds, [], p ++ [], [], p, [], hW0, hres _ _ _, hargs _ (fun x hx => by simpa using hlt x hx), hvr _, World.keptBut_mono (fun x hx => ⟨hx, .inr (by simpa using hx)⟩) (ho.kept (· ∈ p ++ [])), fun _ => ?_⟩
  refine ⟨RowKit.ok_one hrt rfl (RowKit.okWide_bool_mk hb true), _, _, ([] ++ p) ++ [], ⟨[] ++ p, [], ChangeShapes.trodAll_append (hargs _ (fun _ _ => rfl)) (hres _ _ _), hvr _, rfl, ?_, ?_⟩, ?_⟩
  · intro b off hx
    have hx' : MemPlace.cell b off ∈ p := by simpa using hx
    have := hfz b off (by simpa using hx')
    unfold World.frozen? at this ⊢
    rw [ho.2.2 b (hlt _ hx')]
    exact this
  · intro ha
    have := hnd ha
    simpa using this
  · intro x hx _
    simpa using hx
end
end Go.Eng
