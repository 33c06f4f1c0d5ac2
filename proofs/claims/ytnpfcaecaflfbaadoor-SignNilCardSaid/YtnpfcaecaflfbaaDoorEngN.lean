/- An abstract evaluator of the model's code, part N: literals, conversions, slices. -/
import Derived.Test.YtnpfcaecaflfbaaDoorEngM
namespace Go.Eng
open Go
set_option linter.unusedSimpArgs false
set_option linter.unusedVariables false

section
variable {P : Program} {κ : Ctx} {σ : Store} {φ : Places} {get : Get} {w : World} {out : OpOut} {nb : Nat} {ip : Bool}

theorem zip_splice : ∀ (l : List Value) (k off : Nat) (cells : Array Value), (l.zipIdx k).foldl (fun cs (x : Value × Nat) => cs.setIfInBounds (off + x.2) x.1) cells = splice cells (off + k) l := by
  intro l
  induction l with
  | nil => intro k off cells; rfl
  | cons v l ih =>
    intro k off cells
    simp only [List.zipIdx_cons, List.foldl_cons, splice]
    rw [ih, Nat.add_assoc]
theorem zip_splice' (v : Array Value) (off : Nat) (cells : Array Value) : (v.zipIdx.foldl (fun cs (x : Value × Nat) => cs.setIfInBounds (off + x.2) x.1) cells) = splice cells off v.toList := by
  rw [← Array.foldl_toList, Array.toList_zipIdx]
  exact zip_splice _ 0 off cells

theorem VL.splice3 {cs vs : List AV} {ys zs : List Value} {o : Nat} (h1 : VL σ φ cs ys) (h2 : VL σ φ vs zs) (ho : o + vs.length ≤ cs.length) :
    VL σ φ (cs.take o ++ vs ++ cs.drop (o + vs.length)) (Go.Eng.splice ys.toArray o zs).toList := by
  have hl := h1.1
  have hl2 := h2.1
  refine ⟨by rw [show (Go.Eng.splice ys.toArray o zs).toList.length = (Go.Eng.splice ys.toArray o zs).size from Array.length_toList, splice_size]; simp; omega, fun j c y hc hy => ?_⟩
  rw [Go.Eng.splice3 ho] at hc
  rw [Array.getElem?_toList, splice_get _ _ _ _ (by simp; omega)] at hy
  split at hc
  · rw [if_pos (by omega)] at hy
    exact h2.2 _ c y hc hy
  · rw [if_neg (by omega)] at hy
    exact h1.2 j c y hc (by simpa using hy)

/-- parts that agree -/
def PL (σ : Store) (φ : Places) : List (Nat × AV) → List (Nat × Value) → Prop
  | [], [] => True
  | (i, x) :: xs, (k, y) :: ys => i = k ∧ V σ φ x y ∧ PL σ φ xs ys
  | _, _ => False

theorem fill_ok {place : Nat → Option (Nat × Nat)} : ∀ {parts : List (Nat × AV)} {vparts : List (Nat × Value)} {cs cs' : List AV} {ys : List Value},
    fillE place cs parts = some cs' → PL σ φ parts vparts → VL σ φ cs ys → ∃ ys' : List Value, Instr.fill place ys.toArray vparts = some ys'.toArray ∧ VL σ φ cs' ys' := by
  intro parts
  induction parts with
  | nil =>
    intro vparts cs cs' ys h hp hv
    cases vparts with
    | nil => simp [fillE] at h; subst h; exact ⟨ys, rfl, hv⟩
    | cons => exact hp.elim
  | cons p parts ih =>
    obtain ⟨i, x⟩ := p
    intro vparts cs cs' ys h hp hv
    cases vparts with
    | nil => exact hp.elim
    | cons q vparts =>
      obtain ⟨k, y⟩ := q
      obtain ⟨rfl, hx, hp⟩ := hp
      simp only [fillE] at h
      split at h
      · rename_i off size vs hpl hcs
        split at h
        · rename_i hcond
          obtain ⟨hsz, hfit⟩ := hcond
          have hvv := cellsOf_ok hcs hx
          have hyl : y.cells.size = size := by have := hvv.1; simp at this; omega
          have hl := hv.1
          subst hsz
          have h1 := VL.splice3 hv hvv hfit
          obtain ⟨ys', h2, h3⟩ := ih h hp h1
          refine ⟨ys', ?_, h3⟩
          simp only [Instr.fill, hpl]
          rw [if_neg (by simp [hyl]; omega)]
          have e : (Go.Eng.splice ys.toArray off y.cells.toList).toList.toArray = Go.Eng.splice ys.toArray off y.cells.toList := by simp
          rw [e] at h2
          rw [← h2]
          congr 1
          exact zip_splice' y.cells off ys.toArray
        · simp at h
      · simp at h

theorem fieldPlaces_run : ∀ {l : List Field} {ps : List (Nat × Nat)}, fieldPlaces P l = some ps →
    (l.mapM fun f => (do pure (f.offset, ← sizeOf f.type) : Sem (Nat × Nat))).run P w = .ok ps w := by
  intro l
  induction l with
  | nil => intro ps h; simp [fieldPlaces] at h; subst h; rfl
  | cons f l ih =>
    intro ps h
    simp only [fieldPlaces] at h
    split at h
    · rename_i s r hs hr
      simp at h; subst h
      rw [List.mapM_cons]
      simp only [Sem.run_bind, run_sizeOf hs, Result.andThen_ok, Sem.run_pure, ih hr]
    · simp at h

theorem build_ok {t : TypeId} {parts : List (Nat × AV)} {vparts : List (Nat × Value)} {x : AV} (h : buildE P t parts = some x) (hp : PL σ φ parts vparts) :
    ∃ v, (Instr.build t vparts.toArray).run P w = .ok v w ∧ V σ φ x v := by
  unfold buildE at h
  split at h
  · rename_i z fs hz hu
    obtain ⟨zv, hzr, hzz⟩ := run_zeroValue (w := w) hz
    cases hps : fieldPlaces P fs.toList with
    | none => simp [hps] at h
    | some ps =>
      rw [hps] at h
      simp only [Option.bind_some, Option.map_eq_some_iff] at h
      obtain ⟨cs, hf, rfl⟩ := h
      have hv0 : VL σ φ z zv.cells.toList := by rw [hzz]; exact zero_VL zv
      obtain ⟨ys, hfill, hv⟩ := fill_ok hf hp hv0
      refine ⟨.agg ys.toArray, ?_, .agg (by simpa using hv.1) fun j c y hc hy => hv.2 j c y hc (by simpa using hy)⟩
      have hmap : (fs.mapM fun f => (do pure (f.offset, ← sizeOf f.type) : Sem (Nat × Nat))).run P w = .ok ps.toArray w := by
        have e : fs = fs.toList.toArray := by simp
        rw [e, List.mapM_toArray]
        simp only [Sem.run_map, fieldPlaces_run hps, Result.andThen_ok]
      unfold Instr.build
      simp only [Sem.run_bind, hzr, Result.andThen_ok, run_underlying hu, hmap]
      have e2 : (fun (x : Nat) => ps.toArray[x]?) = fun (i : Nat) => ps[i]? := by funext i; simp
      have e3 : zv.cells = zv.cells.toList.toArray := by simp
      rw [e2, e3, hfill]
      simp
  · rename_i z n e hz hu
    obtain ⟨zv, hzr, hzz⟩ := run_zeroValue (w := w) hz
    cases hsz : szOf P e with
    | none => simp [hsz] at h
    | some sz =>
      rw [hsz] at h
      simp only [Option.bind_some, Option.map_eq_some_iff] at h
      obtain ⟨cs, hf, rfl⟩ := h
      have hv0 : VL σ φ z zv.cells.toList := by rw [hzz]; exact zero_VL zv
      obtain ⟨ys, hfill, hv⟩ := fill_ok hf hp hv0
      refine ⟨.agg ys.toArray, ?_, .agg (by simpa using hv.1) fun j c y hc hy => hv.2 j c y hc (by simpa using hy)⟩
      unfold Instr.build
      simp only [Sem.run_bind, hzr, Result.andThen_ok, run_underlying hu, run_sizeOf hsz]
      have e3 : zv.cells = zv.cells.toList.toArray := by simp
      rw [e3, hfill]
      simp
  · simp at h

theorem repCells_VL {z : Value} {zs : List AV} (hz : zs = z.cells.toList.map .v) (n : Nat) :
    VL σ φ (repCells n zs) ((List.range (n * z.cells.size)).map fun i => z.cells[i % z.cells.size]!) := by
  induction n with
  | zero => exact ⟨by simp [repCells], fun j c y hc hy => by simp [repCells] at hc⟩
  | succ n ih =>
    have e1 : repCells (n + 1) zs = repCells n zs ++ zs := by simp [repCells, List.range_succ, List.flatMap_append]
    have e2 : (List.range ((n + 1) * z.cells.size)).map (fun i => z.cells[i % z.cells.size]!) = (List.range (n * z.cells.size)).map (fun i => z.cells[i % z.cells.size]!) ++ z.cells.toList := by
      rw [Nat.succ_mul, List.range_add, List.map_append, List.map_map]
      congr 1
      apply List.ext_getElem
      · simp
      · intro i h1 h2
        have hi : i < z.cells.size := by simpa using h2
        simp only [List.getElem_map, List.getElem_range, Function.comp]
        rw [Nat.mul_comm n, Nat.mul_add_mod, Nat.mod_eq_of_lt hi, getElem!_pos z.cells i hi]
        simp
    rw [e1, e2]
    have hz0 : VL σ φ zs z.cells.toList := by rw [hz]; exact zero_VL z
    have hl := ih.1
    refine ⟨by simp only [List.length_append]; rw [hl, hz0.1], fun j c y hc hy => ?_⟩
    by_cases hj : j < (repCells n zs).length
    · rw [List.getElem?_append_left hj] at hc
      rw [List.getElem?_append_left (by rw [← hl]; exact hj)] at hy
      exact ih.2 j c y hc hy
    · rw [List.getElem?_append_right (by omega)] at hc
      rw [List.getElem?_append_right (by rw [← hl]; omega), ← hl] at hy
      exact hz0.2 _ c y hc hy

theorem buildSlice_ok {t : TypeId} {len : Nat} {parts : List (Nat × AV)} {vparts : List (Nat × Value)} (h : (buildSliceE P nb t len parts).get = some out) (hp : PL σ φ parts vparts)
    (hR : R κ σ φ get w) (hn : ∀ k, nb ≤ k → k < nb + out.new.length → φ k = none) : Eff P κ σ φ nb get w (Instr.buildSlice t len vparts.toArray) out := by
  unfold buildSliceE at h
  split at h
  · rename_i elem hel
    have hu := elemOfT_some hel
    split at h
    · rename_i sz z hsz hz
      split at h
      · rename_i hcond
        obtain ⟨hzl, hlim⟩ := hcond
        split at h
        · rename_i cs hf
          split at h
          · rename_i hc2
            simp only [Bool.and_eq_true, beq_iff_eq] at hc2
            obtain ⟨⟨hfree, hone⟩, hlen⟩ := hc2
            simp only [Tree.get, Option.some.injEq] at h
            subst h
            obtain ⟨zv, hzr, hzz⟩ := run_zeroValue (w := w) hz
            have hzsz : zv.cells.size = sz := by rw [hzz] at hzl; simpa using hzl
            have hv0 := repCells_VL (σ := σ) (φ := φ) hzz len
            rw [hzsz] at hv0
            obtain ⟨ys, hfill, hv⟩ := fill_ok hf hp hv0
            have hwf : ∀ e, (chain z 0 (chunks sz len cs) e).length = sz := fun e => chain_len _ (chunks_len hlen) hzl
            have hS : Src σ ys sz len (chain z 0 (chunks sz len cs)) := by
              refine src_one (by rw [← hv.1, hlen]) hwf fun e he j c hc => ?_
              obtain ⟨h1, h2⟩ := chain_chunks (σ := σ) (φ := φ) hzl hlen he
              obtain ⟨d, hd, hdv⟩ := h2 j c hc
              have hlt : e * sz + j < ys.length := by rw [← hv.1]; exact (List.getElem?_eq_some_iff.1 hd).1
              have hvd := hv.2 _ d ys[e * sz + j] hd (by simp [hlt])
              exact ⟨ys[e * sz + j], by simp [hlt], cellOk_one (all_get hone hd) hvd, (hdv _).1 (hvd.free (all_get hfree hd))⟩
            refine eff_row (ys := ys) (rest := #[]) (T := elem) (fr := (0, 0)) (cap := len) (w' := pushRow w ys.toArray elem) hR (hn nb (Nat.le_refl _) (by simp)) ?_ (by simp [pushRow]) (fun o _ => by simp) rfl rfl rfl hS (Nat.le_refl _) (by simp [hS.1])
            unfold Instr.buildSlice
            simp only [Sem.run_bind, run_underlying hu, Result.andThen_ok, run_sizeOf hsz]
            have hlim' : ¬ (len * sz > 2 ^ 24) := by
              have e : (2 : Nat) ^ 24 = 16777216 := by decide
              rw [e]; omega
            simp only [hlim', if_false, Sem.run_ite]
            have harr : ∀ g h : Nat → Value, (∀ i, i < len * sz → g i = h i) → (Array.range (len * sz)).map g = ((List.range (len * sz)).map h).toArray := by
              intro g h hgh
              apply Array.ext'
              simp only [Array.toList_map, Array.toList_range]
              exact List.map_congr_left fun i hi => hgh i (by simpa using hi)
            by_cases hz0 : len * sz = 0
            · simp only [hz0, if_true, Sem.run_bind, Sem.run_pure, Result.andThen_ok]
              rw [hz0] at hfill harr
              rw [harr _ (fun i => zv.cells[i % sz]!) (fun i hi => by omega), hfill]
              simp only [Sem.run_bind, run_newRow, Result.andThen_ok, Sem.run_pure]
            · simp only [hz0, if_false, Sem.run_bind, hzr, Result.andThen_ok, Sem.run_pure]
              rw [harr _ (fun i => zv.cells[i % sz]!) (fun i hi => by rw [hzsz]), hfill]
              simp only [Sem.run_bind, run_newRow, Result.andThen_ok, Sem.run_pure]
          · simp [Tree.get] at h
        · simp [Tree.get] at h
      · simp [Tree.get] at h
    · simp [Tree.get] at h
  · simp [Tree.get] at h

/-! ### conversions -/
theorem convKind_int {t : TypeId} {k : IntKind} (h : convKind P t = .int k) : P.underlying t = some (.int k) := by
  unfold convKind at h
  split at h
  · rename_i hu; cases h; exact hu
  · cases h
  · split at h <;> cases h
  · cases h
theorem convKind_str {t : TypeId} (h : convKind P t = .str) : P.underlying t = some .string := by
  unfold convKind at h
  split at h
  · cases h
  · rename_i hu; exact hu
  · split at h <;> cases h
  · cases h
theorem convKind_bytes {t e : TypeId} (h : convKind P t = .bytes e) : P.underlying t = some (.slice e) ∧ P.underlying e = some (.int .u8) := by
  unfold convKind at h
  split at h
  · cases h
  · cases h
  · rename_i hu
    split at h
    · rename_i hu2; cases h; exact ⟨hu, hu2⟩
    · cases h
  · cases h

theorem allBytes_get {n : Nat} {f : Nat → List AV} (h : allBytes n f = true) {j : Nat} (hj : j < n) : ∃ m, f j = [.v (.int .u8 m)] := by
  have := List.all_eq_true.1 h j (by simpa using hj)
  unfold isByte at this
  split at this
  · rename_i m hm; exact ⟨m, hm⟩
  · simp at this

def byteVal : Value → UInt8
  | .int _ n => UInt8.ofNat n.toNat
  | _ => 0
theorem forIn_push {body : Value → ByteArray → Sem (ForInStep ByteArray)} (hb : ∀ n s, body (.int .u8 n) s = pure (.yield (s.push (UInt8.ofNat n.toNat)))) :
    ∀ (ys : List Value) (s : ByteArray), (∀ y ∈ ys, ∃ n, y = .int .u8 n) → (forIn ys s body).run P w = .ok ⟨s.data ++ (ys.map byteVal).toArray⟩ w := by
  intro ys
  induction ys with
  | nil => intro s _; simp
  | cons y ys ih =>
    intro s h
    obtain ⟨n, rfl⟩ := h y (by simp)
    rw [List.forIn_cons]
    simp only [hb, Sem.run_bind, Sem.run_pure, Result.andThen_ok]
    rw [ih _ (fun y hy => h y (by simp [hy]))]
    simp [ByteArray.push, byteVal]
theorem textOf_eq {n : Nat} {f : Nat → List AV} {ys : List Value} (hall : allBytes n f = true) (hS : Src σ ys 1 n f) :
    (∀ y ∈ ys, ∃ m, y = .int .u8 m) ∧ textOf n f = ⟨(ys.map byteVal).toArray⟩ := by
  have hl : ys.length = n := by have := hS.1; omega
  have hget : ∀ j, j < n → ∃ m, f j = [.v (.int .u8 m)] ∧ ys[j]? = some (.int .u8 m) := by
    intro j hj
    obtain ⟨m, hm⟩ := allBytes_get hall hj
    obtain ⟨y, hy, hv⟩ := hS.2.2.2 j hj 0 (.v (.int .u8 m)) (by rw [hm]; rfl)
    have : y = .int .u8 m := by cases hv; rfl
    subst this
    exact ⟨m, hm, by simpa using hy⟩
  refine ⟨fun y hy => ?_, ?_⟩
  · obtain ⟨j, hj⟩ := List.mem_iff_getElem?.1 hy
    have hlt : j < n := by have := (List.getElem?_eq_some_iff.1 hj).1; omega
    obtain ⟨m, _, hm⟩ := hget j hlt
    rw [hm] at hj
    exact ⟨m, (Option.some.inj hj).symm⟩
  · unfold textOf
    congr 2
    apply List.ext_getElem?
    intro j
    by_cases hj : j < n
    · obtain ⟨m, h1, h2⟩ := hget j hj
      simp [List.getElem?_range hj, h1, h2, byteIn, byteVal]
    · simp [Nat.le_of_not_lt hj, hl]

theorem conv_ok {s d : TypeId} {x : AV} {vx : Value} (h : (convE P nb get s d x).get = some out) (hx : V σ φ x vx)
    (hR : R κ σ φ get w) (hn : ∀ k, nb ≤ k → k < nb + out.new.length → φ k = none) : Eff P κ σ φ nb get w (convert s d vx) out := by
  unfold convE at h
  split at h
  · rename_i k1 k2 k3 n h1 h2
    obtain rfl := get_one h
    cases hx.v_eq
    exact Pur.eff ⟨_, by simp [convert, run_underlying (convKind_int h1), run_underlying (convKind_int h2), Conv.intToInt], V_v _, rfl, rfl⟩ hR
  · rename_i k1 k3 n h1 h2
    obtain rfl := get_one h
    cases hx.v_eq
    exact Pur.eff ⟨_, by simp [convert, run_underlying (convKind_int h1), run_underlying (convKind_str h2), Conv.intToString], V_v _, rfl, rfl⟩ hR
  · rename_i s' h1 h2
    obtain rfl := get_one h
    cases hx.v_eq
    exact Pur.eff ⟨_, by simp [convert, run_underlying (convKind_str h1), run_underlying (convKind_str h2)], V_v _, rfl, rfl⟩ hR
  · rename_i e s' h1 h2
    simp only [Tree.get, Option.some.injEq] at h
    subst h
    cases hx.v_eq
    obtain ⟨hu1, hu2⟩ := convKind_bytes h2
    have hsrc : source get (.v (.string s')) = some (s'.size, fun j => [.v (.int .u8 (sbyte s' j))]) := rfl
    obtain ⟨_, hcells⟩ := source_ok (P := P) hsrc (sz := 1) rfl hx hR
    obtain ⟨ys, hys, hS⟩ := hcells s'.size (Nat.le_refl _)
    have hysv : ys.toArray = s'.data.map fun b => (.int .u8 b.toNat : Value) := by
      have := hys w rfl
      simp only [Builtin.firstCells, Sem.run_pure, Result.ok.injEq, and_true] at this
      rw [← this]
      congr 1
      have : s'.extract 0 s'.size = s' := by
        apply ByteArray.ext; simp [ByteArray.data_extract]
      rw [this]
    have hq : (Question.appendCap s'.size 0 e).forced = false := rfl
    refine eff_row (ys := ys) (rest := Array.replicate ((Question.appendCap s'.size 0 e).cut (w.tape w.drawn (.appendCap s'.size 0 e)) - s'.size) (.int .u8 0)) (T := e)
      (fr := ((Question.appendCap s'.size 0 e).cut (w.tape w.drawn (.appendCap s'.size 0 e)), (Question.appendCap s'.size 0 e).cut (w.tape w.drawn (.appendCap s'.size 0 e)) + 1))
      (cap := (Question.appendCap s'.size 0 e).cut (w.tape w.drawn (.appendCap s'.size 0 e)))
      (w' := { w with drawn := w.drawn + 1, heap := w.heap.push (.cells (ys.toArray ++ Array.replicate ((Question.appendCap s'.size 0 e).cut (w.tape w.drawn (.appendCap s'.size 0 e)) - s'.size) (.int .u8 0)) e
        ((Question.appendCap s'.size 0 e).cut (w.tape w.drawn (.appendCap s'.size 0 e)), (Question.appendCap s'.size 0 e).cut (w.tape w.drawn (.appendCap s'.size 0 e)) + 1)) })
      hR (hn nb (Nat.le_refl _) (by simp)) ?_ rfl ?_ rfl rfl rfl hS cut_ge ?_
    · have hsz : ys.toArray.size = s'.size := by rw [hysv]; simp
      have hge := cut_ge (need := s'.size) (old := 0) (e := e) (t := w.tape w.drawn (.appendCap s'.size 0 e))
      generalize hcap : (Question.appendCap s'.size 0 e).cut (w.tape w.drawn (.appendCap s'.size 0 e)) = cap at *
      have hcon : (convert s d (.string s')).run P w = (Conv.stringToBytes e s').run P w := by
        unfold convert
        simp only [Sem.run_bind, run_underlying (convKind_str h1), Result.andThen_ok, run_underlying hu1, run_underlying hu2]
      rw [hcon]
      unfold Conv.stringToBytes
      simp only [Sem.run_bind, run_choose, hq, Bool.false_eq_true, if_false, Result.andThen_ok, run_newRow, hcap, markStringish, run_shape, pushRow]
      rw [← hysv]
      have hshape : (({ heap := w.heap.push (Obj.cells (ys.toArray ++ Array.replicate (cap - s'.size) (.int .u8 0)) e), tape := w.tape, drawn := w.drawn + 1, os := w.os, output := w.output } : World).shape? w.heap.size) = some (e, cap) := by
        simp [World.shape?, hsz]; omega
      simp only [hshape, run_freeze, Result.andThen_ok, Sem.run_pure]
      congr 1
      simp only [World.freeze, Nat.one_ne_zero, if_false]
      congr 1
      apply Array.ext_getElem?
      intro i
      rw [Array.getElem?_modify, Array.getElem?_push, Array.getElem?_push]
      by_cases hi : i = w.heap.size
      · subst hi; simp
      · simp [hi, Ne.symm hi]
    · intro o ho
      have hsz : ys.toArray.size = s'.size := by rw [hysv]; simp
      have hge := cut_ge (need := s'.size) (old := 0) (e := e) (t := w.tape w.drawn (.appendCap s'.size 0 e))
      generalize (Question.appendCap s'.size 0 e).cut (w.tape w.drawn (.appendCap s'.size 0 e)) = cap at *
      rw [Array.size_append, hsz, Array.size_replicate] at ho
      simp; omega
    · have hsz : ys.toArray.size = s'.size := by rw [hysv]; simp
      have hge := cut_ge (need := s'.size) (old := 0) (e := e) (t := w.tape w.drawn (.appendCap s'.size 0 e))
      generalize (Question.appendCap s'.size 0 e).cut (w.tape w.drawn (.appendCap s'.size 0 e)) = cap at *
      rw [Array.size_append, hsz, Array.size_replicate]; omega
  · rename_i e h1 h2
    obtain rfl := get_one h
    cases hx.v_eq
    obtain ⟨hu1, hu2⟩ := convKind_bytes h1
    exact Pur.eff ⟨_, by simp [convert, run_underlying hu1, run_underlying (convKind_str h2), run_underlying hu2, Conv.bytesToString]; rfl, V_v (.string ⟨#[]⟩), rfl, rfl⟩ hR
  · rename_i e h1 h2 hnn
    obtain ⟨hu1, hu2⟩ := convKind_bytes h1
    split at h
    · rename_i n f hsrc
      split at h
      · rename_i hsz
        obtain ⟨hsz, hisl⟩ := hsz
        obtain ⟨hall, h⟩ := get_chk h
        obtain rfl := get_one h
        obtain ⟨hlen, hcells⟩ := source_ok (P := P) hsrc hsz hx hR
        obtain ⟨ys, hys, hS⟩ := hcells n (Nat.le_refl n)
        have hsl : ∃ A n' c, vx = .slice A n' c := by
          cases hx with
          | base hx =>
            cases hx with
            | sl => exact ⟨_, _, _, rfl⟩
            | slnil => exact ⟨_, _, _, rfl⟩
            | _ => simp [isSlAV] at hisl
          | hs => exact ⟨_, _, _, rfl⟩
          | hsnil => exact ⟨_, _, _, rfl⟩
          | _ => simp [isSlAV] at hisl
        have hcon : (convert s d vx).run P w = (Conv.bytesToString vx).run P w := by
          obtain ⟨A, n', c, rfl⟩ := hsl
          unfold convert
          simp only [Sem.run_bind, run_underlying hu1, Result.andThen_ok, run_underlying (convKind_str h2), run_underlying hu2]
        refine Pur.eff ⟨.string (textOf n f), ?_, V_v _, rfl, rfl⟩ hR
        rw [hcon]
        obtain ⟨A, n', c, rfl⟩ := hsl
        have hn' : n' = n := by simpa [Builtin.lenOf] using hlen
        subst hn'
        have hld := hys w rfl
        unfold Conv.bytesToString
        cases A with
        | none =>
          simp only [Builtin.firstCells, Sem.run_pure, Result.ok.injEq, and_true] at hld
          have hy0 : ys = [] := by have := congrArg Array.toList hld; simpa using this.symm
          have hn0 : n' = 0 := by have := hS.1; rw [hy0] at this; simpa using this.symm
          subst hn0
          rfl
        | some a =>
          simp only [Builtin.firstCells, Nat.mul_one] at hld
          simp only [Sem.run_bind, hld, Result.andThen_ok]
          obtain ⟨hb, ht⟩ := textOf_eq hall hS
          rw [List.forIn_toArray, forIn_push (fun n s => rfl) ys _ hb, ht]
          simp [ByteArray.empty, ByteArray.emptyWithCapacity]
          rfl
      · simp [Tree.get] at h
    · simp [Tree.get] at h
  · simp [Tree.get] at h
/-! ### the runes of a text -/
theorem range_ok {t : TypeId} {x : AV} {vx : Value} (h : (rangeE P nb t x).get = some out) (hx : V σ φ x vx) (hR : R κ σ φ get w) (hn : ∀ k, nb ≤ k → k < nb + out.new.length → φ k = none) :
    Eff P κ σ φ nb get w (Instr.range t vx) out := by
  unfold rangeE at h
  split at h
  · rename_i s hu
    simp only [Tree.get, Option.some.injEq] at h
    subst h
    cases hx.v_eq
    have hnb : φ nb = none := hn nb (Nat.le_refl _) (by simp)
    let w1 : World := { w with heap := w.heap.push (.stringIter s 0) }
    have hrun : (Instr.range t (.string s)).run P w = .ok (.pointer (some ⟨w.heap.size, 0, none⟩)) w1 := by
      unfold Instr.range
      simp [run_underlying hu, newObj, Sem.run, w1]
    refine ⟨_, _, fun k => if k = nb then some ⟨w.heap.size, 0, 0, 0, 0, false⟩ else φ k, hrun, ?_, ?_, ?_, ?_⟩
    · exact fun j K hj => by
        by_cases e : j = nb
        · subst e; rw [hnb] at hj; simp at hj
        · simp [e, hj]
    · exact fun k hk hkk => by
        have : k ≠ nb := by simp at hkk; omega
        simp [this, hk]
    · exact .its (L := ⟨w.heap.size, 0, 0, 0, 0, false⟩) (by simp) rfl
    · exact hR.new hnb rfl rfl rfl rfl rfl (fun φ' hle => by show w1.heap[w.heap.size]? = _; simp [w1]) trivial (fun _ _ _ h' => by cases h')
  · simp [Tree.get] at h
theorem next_ok {it : AV} {str : Bool} {rt : TypeId} {vi : Value} (h : (nextE get it str).get = some out) (hx : V σ φ it vi) (hR : R κ σ φ get w) :
    Eff P κ σ φ nb get w (Instr.next vi str rt) out := by
  unfold nextE at h
  split at h
  · rename_i i
    split at h
    · rename_i s pos hg
      cases hx with
      | base h0 => cases h0
      | @its _ L hL hr =>
        have hobj : w.heap[L.b]? = some (.stringIter s pos) := hR.obj i _ L hg hL hr
        have hlt := hR.lt i L hL hr
        cases hc : decide (pos < s.size) with
        | true =>
          rw [hc] at h
          simp only [Tree.get, Option.some.injEq] at h
          subst h
          have hp : pos < s.size := of_decide_eq_true hc
          let w1 : World := { w with heap := w.heap.setIfInBounds L.b (.stringIter s (pos + (Utf8.decode s pos).2)) }
          have hrun : (Instr.next (.pointer (some ⟨L.b, 0, none⟩)) true rt).run P w = .ok (.tuple #[.bool true, .int .i64 (pos : Int), .int .i32 (Utf8.decode s pos).1]) w1 := by
            have hgo : (getObj L.b).run P w = .ok (.stringIter s pos) w := by simp [getObj, Sem.run, hobj]
            have hso : (setObj L.b (.stringIter s (pos + (Utf8.decode s pos).2))).run P w = .ok () w1 := by
              unfold setObj
              simp only [Sem.run]
              rw [hobj]
            unfold Instr.next
            simp only [Sem.run_bind, hgo, Result.andThen_ok, hp, if_true, hso, Sem.run_pure, goInt]
          refine ⟨_, _, φ, hrun, Places.le_refl φ, fun k hk _ => hk, ?_, ?_⟩
          · exact .tup rfl fun j c y hc' hy => by
              match j with
              | 0 => simp at hc' hy; subst hc'; subst hy; exact V_v _
              | 1 => simp at hc' hy; subst hc'; subst hy; exact V_v _
              | 2 => simp at hc' hy; subst hc'; subst hy; exact V_v _
              | j + 3 => simp at hc'
          · refine hR.write hL hr (by simp [hg]) (fun b' hb' => by simp [w1, Array.getElem?_setIfInBounds, Ne.symm hb']) (by simp [w1]) rfl rfl rfl (fun blk hblk => ?_) (fun blk hblk => by simp only [Option.some.injEq] at hblk; subst hblk; trivial) (fun _ _ _ h' => by cases h')
            simp only [Option.some.injEq] at hblk
            subst hblk
            show w1.heap[L.b]? = _
            simp [w1, hlt]
        | false =>
          rw [hc] at h
          have h := get_one h
          subst h
          have hp : ¬ pos < s.size := of_decide_eq_false hc
          have hrun : (Instr.next (.pointer (some ⟨L.b, 0, none⟩)) true rt).run P w = .ok (.tuple #[.bool false]) w := by
            have hgo : (getObj L.b).run P w = .ok (.stringIter s pos) w := by simp [getObj, Sem.run, hobj]
            unfold Instr.next
            simp only [Sem.run_bind, hgo, Result.andThen_ok, hp, if_false, Sem.run_pure]
          refine Pur.eff ⟨_, hrun, ?_, rfl, rfl⟩ hR
          exact .tup rfl fun j c y hc' hy => by
            match j with
            | 0 => simp at hc' hy; subst hc'; subst hy; exact V_v _
            | j + 1 => simp at hc'
    · simp [Tree.get] at h
  · simp [Tree.get] at h
end
end Go.Eng
