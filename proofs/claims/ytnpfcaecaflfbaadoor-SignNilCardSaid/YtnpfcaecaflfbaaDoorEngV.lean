/- An abstract evaluator of the model's code, part V: what a loop's summary rests on. -/
import Derived.Test.YtnpfcaecaflfbaaDoorEngU
namespace Go.Eng
open Go
set_option linter.unusedSimpArgs false
set_option linter.unusedVariables false

/-! ### a value that knows less -/
inductive AV.le : AV → AV → Prop
  | refl (x) : AV.le x x
  | any (x) : AV.le x .any
  | sb (b) : AV.le (.sb b) (.v (.bool b))
  | bs (b) : AV.le (.v (.bool b)) (.sb b)
def LeL : List AV → List AV → Prop
  | [], [] => True
  | x :: xs, y :: ys => AV.le x y ∧ LeL xs ys
  | _, _ => False
/-- a block that knows less -/
inductive BLe : Blk → Blk → Prop
  | refl (b) : BLe b b
  | arr {sz n : Nat} {f f' : Nat → List AV} (h : ∀ e, e < n → LeL (f e) (f' e)) (hl : ∀ e, (f' e).length = sz) : BLe (.arr sz n f) (.arr sz n f')
  | row {cs cs' : List AV} (h : LeL cs cs') : BLe (.row cs) (.row cs')
  | mp {cels : List Cel} {ka va : Bool} {n : Nat} {has has' : List KC → Bool} {val val' : List KC → List AV} (h : ∀ k, has k = has' k) (hv : ∀ k, has k = true → LeL (val k) (val' k)) : BLe (.mp cels ka va n has val) (.mp cels ka va n has' val')
inductive OLe : Option Blk → Option Blk → Prop
  | none (x) : OLe x none
  | some {b b'} (h : BLe b b') : OLe (some b) (some b')
def LeH : Heap → Heap → Prop
  | [], [] => True
  | x :: xs, y :: ys => OLe x y ∧ LeH xs ys
  | _, _ => False
@[simp] theorem OLe_none (x : Option Blk) : OLe x none := .none x
theorem OLe.refl (x : Option Blk) : OLe x x := by cases x with
  | none => exact .none _
  | some b => exact .some (.refl b)
theorem OLe.of_eq {x y : Option Blk} (h : x = y) : OLe x y := h ▸ .refl x
@[simp] theorem OLe_refl (x : Option Blk) : OLe x x := .refl x
theorem LeL.refl : ∀ xs : List AV, LeL xs xs
  | [] => trivial
  | x :: xs => ⟨.refl x, LeL.refl xs⟩
theorem OLe.arrLe {sz n n' : Nat} {f f' : Nat → List AV} (hn : n = n') (h : ∀ e, e < n → LeL (f e) (f' e)) (hl : ∀ e, (f' e).length = sz) : OLe (Option.some (.arr sz n f)) (Option.some (.arr sz n' f')) := by
  subst hn; exact .some (.arr h hl)
theorem OLe.arr {sz n n' : Nat} {f f' : Nat → List AV} (hn : n = n') (h : ∀ e, e < n → f e = f' e) (hl : ∀ e, (f' e).length = sz) : OLe (Option.some (.arr sz n f)) (Option.some (.arr sz n' f')) := by
  subst hn; exact .some (.arr (fun e he => h e he ▸ LeL.refl _) hl)
theorem OLe.row {cs cs' : List AV} (h : LeL cs cs') : OLe (Option.some (.row cs)) (Option.some (.row cs')) := .some (.row h)
theorem OLe.mp {cels : List Cel} {ka va : Bool} {n n' : Nat} {has has' : List KC → Bool} {val val' : List KC → List AV} (hn : n = n') (h : ∀ k, has k = has' k) (hv : ∀ k, has k = true → LeL (val k) (val' k)) : OLe (Option.some (.mp cels ka va n has val)) (Option.some (.mp cels ka va n' has' val')) := by
  subst hn; exact .some (.mp h hv)
theorem AV.le.of_eq {x y : AV} (h : x = y) : AV.le x y := h ▸ .refl x
@[simp] theorem AV.le_any (x : AV) : AV.le x .any := .any x
@[simp] theorem AV.le_refl (x : AV) : AV.le x x := .refl x
@[simp] theorem LeL_nil : LeL [] [] = True := rfl
@[simp] theorem LeL_cons {x y : AV} {xs ys : List AV} : LeL (x :: xs) (y :: ys) = (AV.le x y ∧ LeL xs ys) := rfl
@[simp] theorem LeH_nil : LeH [] [] = True := rfl
@[simp] theorem LeH_cons {x y : Option Blk} {xs ys : Heap} : LeH (x :: xs) (y :: ys) = (OLe x y ∧ LeH xs ys) := rfl
theorem LeH.refl : ∀ xs : Heap, LeH xs xs
  | [] => trivial
  | x :: xs => ⟨.refl x, LeH.refl xs⟩

section
variable {P : Program} {Γ : Nat → AV} {κ : Ctx} {m : Nat} {σ : Store} {φ : Places} {w : World} {ip : Bool} {T : List (CT P Γ)}

theorem AV.le.v {x y : AV} (h : AV.le x y) {v : Value} (hv : V σ φ x v) : V σ φ y v := by
  cases h with
  | refl => exact hv
  | any => exact V_any v
  | sb b => rw [hv.sb_eq]; exact V_v _
  | bs b => rw [hv.v_eq]; exact V_sb b
theorem LeL.len : ∀ {xs ys : List AV}, LeL xs ys → xs.length = ys.length
  | [], [], _ => rfl
  | _ :: _, _ :: _, h => by simp [LeL.len h.2]
  | [], _ :: _, h => h.elim
  | _ :: _, [], h => h.elim
theorem LeL.get : ∀ {xs ys : List AV}, LeL xs ys → ∀ j, AV.le (xs.getD j .any) (ys.getD j .any)
  | [], [], _, _ => .refl _
  | _ :: _, _ :: _, h, 0 => h.1
  | _ :: _, _ :: _, h, j + 1 => by simpa using LeL.get h.2 j
  | [], _ :: _, h, _ => h.elim
  | _ :: _, [], h, _ => h.elim
theorem LeH.len : ∀ {xs ys : Heap}, LeH xs ys → xs.length = ys.length
  | [], [], _ => rfl
  | _ :: _, _ :: _, h => by simp [LeH.len h.2]
  | [], _ :: _, h => h.elim
  | _ :: _, [], h => h.elim
theorem LeH.get : ∀ {xs ys : Heap}, LeH xs ys → ∀ j b', getH ys j = some b' → ∃ b, getH xs j = some b ∧ BLe b b'
  | [], [], _, _, _, h => by simp [getH] at h
  | x :: xs, y :: ys, h, 0, b', hb => by
    have hy : y = some b' := by simpa [getH] using hb
    subst hy
    cases h.1 with
    | some hle => exact ⟨_, by simp [getH], hle⟩
  | x :: xs, y :: ys, h, j + 1, b, hb => by
    have : getH ys j = some b := by simpa [getH] using hb
    have := LeH.get h.2 j b this
    simpa [getH] using this
  | [], _ :: _, h, _, _, _ => h.elim
  | _ :: _, [], h, _, _, _ => h.elim
theorem AV.le.v0 {x y : AV} (h : AV.le x y) {v : Value} (hv : V0 σ x v) : V0 σ y v := by
  cases h with
  | refl => exact hv
  | any => exact .any v
  | sb b => cases hv; exact .v _
  | bs b => cases hv; exact .sb b
theorem LeL.at : ∀ {xs ys : List AV}, LeL xs ys → ∀ (j : Nat) (y : AV), ys[j]? = some y → ∃ x, xs[j]? = some x ∧ AV.le x y
  | [], [], _, j, y, h => by simp at h
  | x :: xs, z :: ys, h, 0, y, hy => by
    simp only [List.getElem?_cons_zero, Option.some.injEq] at hy
    subst hy
    exact ⟨x, rfl, h.1⟩
  | x :: xs, z :: ys, h, j + 1, y, hy => by
    obtain ⟨x', h1, h2⟩ := LeL.at h.2 j y (by simpa using hy)
    exact ⟨x', by simpa using h1, h2⟩
  | [], _ :: _, h, _, _, _ => h.elim
  | _ :: _, [], h, _, _, _ => h.elim
theorem LeL.mv {va : Bool} {xs ys : List AV} (h : LeL xs ys) {v : Value} (hv : mvAt σ va xs v) : mvAt σ va ys v := by
  cases va with
  | true =>
    obtain ⟨zs, rfl, h1, h2⟩ := hv
    refine ⟨zs, rfl, by rw [← h1, h.len], fun j c y hc hy => ?_⟩
    obtain ⟨x, k1, k2⟩ := h.at j c hc
    exact k2.v0 (h2 j x y k1 hy)
  | false =>
    obtain ⟨z, rfl, h2⟩ := hv
    match ys, h with
    | [y], h => exact ⟨y, rfl, h.1.v0 h2⟩
    | [], h => exact h.elim
    | _ :: _ :: _, h => exact h.2.elim
theorem BLe.at {L : Lc} {b b' : Blk} (h : BLe b b') (hb : blkAt σ φ w L b) : blkAt σ φ w L b' := by
  cases h with
  | refl => exact hb
  | arr h hl =>
    obtain ⟨h1, h2, c, h3, h4, h5, h6⟩ := hb
    refine ⟨h1, h2, c, h3, h4, h5, fun e he => ⟨(hl e), fun j x hx => ?_⟩⟩
    obtain ⟨x0, k1, k2⟩ := (h e he).at j x hx
    obtain ⟨y, k3, k4, k5⟩ := (h6 e he).2 j x0 k1
    exact ⟨y, k3, k4, k2.v0 k5⟩
  | row h =>
    obtain ⟨c, h3, h4, h5, h6⟩ := hb
    refine ⟨c, h3, h4, by rw [← h.len]; exact h5, fun j x hx => ?_⟩
    obtain ⟨x0, k1, k2⟩ := h.at j x hx
    obtain ⟨y, k3, k4⟩ := h6 j x0 k1
    exact ⟨y, k3, k2.v k4⟩
  | mp h hv =>
    obtain ⟨es, clock, h1, h2, h3, h4, h5⟩ := hb
    refine ⟨es, clock, h1, h2, h3, fun e he => ?_, fun k k1 k2 => h5 k k1 (by rw [h]; exact k2)⟩
    obtain ⟨k, k1, k2, k3, k4⟩ := h4 e he
    exact ⟨k, k1, k2, by rw [← h]; exact k3, (hv k k3).mv k4⟩
theorem R.le {get get' : Get} (h : R κ σ φ get w) (hs : ∀ i b', get' i = some b' → ∃ b, get i = some b ∧ BLe b b') : R κ σ φ get' w where
  cell := h.cell
  apart := fun i L hi hv hg o => by
    cases hb : get' i with
    | none => rw [hb] at hg; simp at hg
    | some b' =>
      obtain ⟨b, h1, _⟩ := hs i b' hb
      exact h.apart i L hi hv (by simp [h1]) o
  obj := fun i blk L hg hi hv => by
    obtain ⟨b, h1, h2⟩ := hs i blk hg
    exact h2.at (h.obj i b L h1 hi hv)
  dis := fun i j Li Lj hne hgi hgj => by
    cases hb : get' i with
    | none => rw [hb] at hgi; simp at hgi
    | some bi =>
      cases hb' : get' j with
      | none => rw [hb'] at hgj; simp at hgj
      | some bj =>
        obtain ⟨b, h1, _⟩ := hs i bi hb
        obtain ⟨b', h1', _⟩ := hs j bj hb'
        exact h.dis i j Li Lj hne (by simp [h1]) (by simp [h1'])
  lt := h.lt
  tape := h.tape
  os := h.os
  output := h.output
  grow := h.grow
  old := h.old
  store := h.store
  mine := h.mine
  base := h.base
  wf := fun i b' hg => by
    obtain ⟨b, h1, h2⟩ := hs i b' hg
    cases h2 with
    | refl => exact h.wf i _ h1
    | arr _ hl => exact hl
    | row _ => trivial
    | mp _ _ => trivial
  len := fun i L sz n f hg hi => by
    obtain ⟨b, h1, h2⟩ := hs i _ hg
    cases h2 with
    | refl => exact h.len i L _ _ _ h1 hi
    | arr _ _ => exact h.len i L _ _ _ h1 hi

theorem FR.le {fr fr' : List AV} {a : Act} (h : FR σ φ fr a) (hl : fr'.length = fr.length) (hle : ∀ t, AV.le (fr.getD t .any) (fr'.getD t .any)) : FR σ φ fr' a :=
  ⟨by rw [hl]; exact h.1, fun t => (hle t).v (h.2 t)⟩
theorem expand_getD {N : Nat} {live : List Nat} {vals : List AV} {t : Nat} (ht : t < N) : (expand N live vals).getD t .any = (match memN t live with | true => vals.getD (posIn t live) .any | false => .any) := by
  rw [List.getD_eq_getElem?_getD]
  simp only [expand, List.getElem?_map, List.getElem?_range ht, Option.map_some, Option.getD_some]
  rfl
theorem expand_len {N : Nat} {live : List Nat} {vals : List AV} : (expand N live vals).length = N := by simp [expand]
theorem expand_le {N : Nat} {live : List Nat} {vals vals' : List AV} (h : LeL vals vals') (t : Nat) : AV.le ((expand N live vals).getD t .any) ((expand N live vals').getD t .any) := by
  by_cases ht : t < N
  · rw [expand_getD ht, expand_getD ht]
    split
    · exact h.get _
    · exact .refl _
  · rw [List.getD_eq_getElem?_getD, List.getD_eq_getElem?_getD, List.getElem?_eq_none (by rw [expand_len]; omega), List.getElem?_eq_none (by rw [expand_len]; omega)]
    exact .refl _
theorem Inv.le {N : Nat} {live : List Nat} {vals vals' : List AV} {H H' : Heap} {a : Act} (h : Inv κ m σ φ (expand N live vals) H a w) (hv : LeL vals vals') (hh : LeH H H') : Inv κ m σ φ (expand N live vals') H' a w :=
  ⟨by rw [← hh.len]; exact h.len, h.F.le (by rw [expand_len, expand_len]) (expand_le hv), h.R.le hh.get, by rw [← hh.len]; exact h.none⟩

/-! ### a loop -/
/-- one round of a loop: the body and what lives at its end -/
def roundE (T : List (CT P Γ)) (L : Nat → LSpec) (ip : Bool) (m k : Nat) (b : Code) (live : List Nat) (nils : List (Nat × TypeId)) (N : Nat) (vals : List AV) (H : Heap) : Tree Out :=
  (codeE T L ip m k b (expand N live vals) H).bind fun o => match headE P m live (match o.ex with
    | .normal => nils
    | _ => []) o.fr o.H with
    | some (vals, H) => .leaf ⟨o.ex, vals, H⟩
    | none => .fail

/-- what a round owes: the same end from a smaller state, or the end itself -/
def Owes (spec : List AV → Heap → Tree Out) (μ : List AV → Heap → Nat) (n : Nat) (o r : Out) : Prop :=
  match r.ex with
  | .normal => ∃ v2 H2, LeL r.fr v2 ∧ LeH r.H H2 ∧ (spec v2 H2).get = some o ∧ μ v2 H2 < n
  | _ => r.ex = o.ex ∧ LeL r.fr o.fr ∧ LeH r.H o.H

theorem least {p : Nat → Prop} (h : ∃ n, p n) : ∃ n, p n ∧ ∀ k, p k → n ≤ k := by
  obtain ⟨n, hn⟩ := h
  induction n using Nat.strongRecOn with
  | _ n ih =>
    by_cases h : ∃ k, k < n ∧ p k
    · obtain ⟨k, hk, hp⟩ := h
      exact ih k hk hp
    · exact ⟨n, hn, fun k hk => Nat.le_of_not_lt fun hlt => h ⟨k, hlt, hk⟩⟩
open Classical in
noncomputable def leastN (p : Nat → Prop) : Nat := if h : ∃ n, p n then (least h).choose else 0
theorem leastN_mem {p : Nat → Prop} (h : ∃ n, p n) : p (leastN p) := by unfold leastN; rw [dif_pos h]; exact (least h).choose_spec.1
theorem leastN_le {p : Nat → Prop} {k : Nat} (h : p k) : leastN p ≤ k := by
  have h' : ∃ n, p n := ⟨k, h⟩
  unfold leastN; rw [dif_pos h']; exact (least h').choose_spec.2 k h

/-- **a loop does as its summary says** -/
theorem loop_ok {L : Nat → LSpec} {N k : Nat} {b : Code} {ls : LSpec} (μ : List AV → Heap → Nat)
    (hL : ∀ (j : Nat) (b' : Code), (loopBodies b)[j]? = some b' → LoopOK P Γ m N b' (L (k + j)))
    (hr : ∀ vals H o, (ls.spec vals H).get = some o → (roundE T L ip m k b ls.live ls.nils N vals H).sat (Owes ls.spec μ (μ vals H) o)) : LoopOK P Γ m N b ls := by
  intro vals0 H0 o h0 κ σ0 φ0 a0 w0 Q hG0 hN0 hI0 hQ
  let J : Act → World → Nat → Prop := fun a w n => ∃ vals H σ φ, (ls.spec vals H).get = some o ∧ σ0.le σ ∧ (∀ k, k < m → φ k = φ0 k) ∧ a.defers = a0.defers ∧ a.tmps.size = N ∧
    Inv κ m σ φ (expand N ls.live vals) H a w ∧ μ vals H = n
  refine wp_loop (fun a w => ∃ n, J a w n) (fun a w => leastN (J a w)) ⟨_, vals0, H0, σ0, φ0, h0, Store.le_refl _, fun _ _ => rfl, rfl, hN0, hI0, rfl⟩ ?_
  intro a w hJ
  obtain ⟨vals, H, σ, φ, hs, e1, e2, e3, e4, hI, hn⟩ := leastN_mem hJ
  obtain ⟨r, hr1, hr2⟩ := Tree.sat_iff.1 (hr vals H o hs)
  unfold roundE at hr1
  obtain ⟨o1, ho1, ho2⟩ := Tree.get_bind_some hr1
  refine code_ok b k _ H o1 σ φ a w _ hL ho1 hI (hG0.mono e1) expand_len ?_
  intro a' w' σ' φ' f1 f2 f3 f4 hI'
  split at ho2
  · rename_i vals' H' hh
    simp only [Tree.get, Option.some.injEq] at ho2
    subst ho2
    obtain ⟨φ2, g1, hI2⟩ := head_ok hh hI'
    have hN' : a'.tmps.size = N := hI'.tmps.trans f4
    rw [hN'] at hI2
    unfold Owes at hr2
    cases hex : o1.ex with
    | normal =>
      simp only [hex] at hr2
      obtain ⟨v2, H2, k1, k2, k3, k4⟩ := hr2
      have hJ' : J a' w' (μ v2 H2) := ⟨v2, H2, σ', φ2, k3, Store.le_trans e1 f1, fun k hk => (g1 k hk).trans ((f2 k hk).trans (e2 k hk)), f3.trans e3, hN', hI2.le k1 k2, rfl⟩
      refine ⟨⟨_, hJ'⟩, Nat.lt_of_le_of_lt (leastN_le hJ') ?_⟩
      rw [← hn]; exact k4
    | exit id =>
      simp only [hex] at hr2
      obtain ⟨k1, k2, k3⟩ := hr2
      have := hQ a' w' σ' φ2 (Store.le_trans e1 f1) (fun k hk => (g1 k hk).trans ((f2 k hk).trans (e2 k hk))) (f3.trans e3) hN' (hI2.le k2 k3)
      rw [← k1] at this
      exact this
    | ret =>
      simp only [hex] at hr2
      obtain ⟨k1, k2, k3⟩ := hr2
      have := hQ a' w' σ' φ2 (Store.le_trans e1 f1) (fun k hk => (g1 k hk).trans ((f2 k hk).trans (e2 k hk))) (f3.trans e3) hN' (hI2.le k2 k3)
      rw [← k1] at this
      exact this
  · simp [Tree.get] at ho2
end
end Go.Eng
