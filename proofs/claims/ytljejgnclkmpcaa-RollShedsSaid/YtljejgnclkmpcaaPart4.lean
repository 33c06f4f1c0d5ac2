/- Texts that RS13r needs: EngAO and what follows it. -/
import Derived.Test.YtljejgnclkmpcaaPart3
import Derived.RowKit
import Derived.Carry
import Derived.Lib.DecodeN
import Derived.Test.YtljejgnclkmpcaaChecked
import Derived.KernelRfl
import Derived.Shelf.Strings.Builder1
import Derived.WalkKit
import Derived.BigCall
import Derived.Lib.Bytealg
import Derived.Lib.Walk
set_option linter.unnecessarySimpa false
set_option linter.unusedSectionVars false
set_option linter.unusedSimpArgs false
set_option linter.unusedVariables false
namespace Go.Eng
open Go
def lsF {α : Type} [Inhabited α] (c : α → List AV) (l : List α) : Nat → List AV := fun j => c (l.getD j default)
structure Cod {α : Type} (c : α → List AV) (sz : Nat) : Prop where
  len : ∀ x, (c x).length = sz
  mix : ∀ b x y, mixL b (c x) (c y) = c (bif b then x else y)
section
variable {α : Type} [Inhabited α] {c : α → List AV} {sz : Nat}
theorem getD_app {l r : List α} {j : Nat} (h : j < l.length) : (l ++ r).getD j default = l.getD j default := by
  rw [List.getD_eq_getElem?_getD, List.getD_eq_getElem?_getD, List.getElem?_append_left h]
theorem getD_app' {l r : List α} {j : Nat} (h : l.length ≤ j) : (l ++ r).getD j default = r.getD (j - l.length) default := by
  rw [List.getD_eq_getElem?_getD, List.getD_eq_getElem?_getD, List.getElem?_append_right h]
theorem getD_get {l : List α} {j : Nat} (h : j < l.length) : l.getD j default = l[j] := by
  rw [List.getD_eq_getElem?_getD, List.getElem?_eq_getElem h]; rfl
theorem Cod.row (h : Cod c sz) {N : Nat} {f : Nat → List AV} {l : List α} (hN : N = l.length) (hf : ∀ e, e < N → f e = lsF c l e) : OLe (some (.arr sz N f)) (some (.arr sz l.length (lsF c l))) := by
  subst hN
  exact .some (.arr (fun e he => by rw [hf e he]; exact LeL.refl _) fun e => h.len _)
theorem Cod.mixT (h : Cod c sz) (x y : α) : mixL true (c x) (c y) = c x := h.mix true x y
theorem Cod.mixF (h : Cod c sz) (x y : α) : mixL false (c x) (c y) = c y := h.mix false x y
theorem Cod.one (h : Cod c sz) (x z : α) : chain (c z) 0 [c x] 0 = c x := h.mixT x z
theorem Cod.app1 (h : Cod c sz) (l junk : List α) (x z : α) {n N : Nat} (hn : n = l.length) (hN : N = l.length + 1) :
    OLe (some (.arr sz N fun j => mixL (decide (j < n)) (lsF c (l ++ junk) j) (chain (c z) 0 [c x] (j - n)))) (some (.arr sz (l ++ [x]).length (lsF c (l ++ [x])))) := by
  subst hn; subst hN
  refine h.row (by simp) fun e he => ?_
  by_cases hl : e < l.length
  · simp only [decide_eq_true hl, lsF, Nat.zero_add, getD_app hl]
    have : chain (c z) 0 [c x] (e - l.length) = c x := by
      rw [show e - l.length = 0 by omega]; exact h.one x z
    rw [this]
    exact h.mixT _ _
  · have he' : e = l.length := by omega
    subst he'
    simp only [decide_eq_false hl, lsF, Nat.zero_add, Nat.sub_self, getD_app' (Nat.le_refl _)]
    rw [h.one]
    exact h.mixF _ _

theorem Cod.app0 (h : Cod c sz) (l : List α) (x z : α) {n N : Nat} (hn : n = l.length) (hN : N = l.length + 1) :
    OLe (some (.arr sz N fun j => mixL (decide (j < n)) (lsF c l j) (chain (c z) 0 [c x] (j - n)))) (some (.arr sz (l ++ [x]).length (lsF c (l ++ [x])))) := by
  have := h.app1 l [] x z hn hN
  rw [List.append_nil] at this
  exact this
theorem lsF_at (c : α → List AV) (l : List α) (j : Nat) : lsF c l j = c (l.getD j default) := rfl
theorem Cod.clone (h : Cod c sz) (l junk : List α) (z : α) {N : Nat} (hn : N = l.length) :
    OLe (some (.arr sz N fun j => mixL (decide (j < 0)) (chain (c z) 0 [] j) (lsF c (l ++ junk) j))) (some (.arr sz l.length (lsF c l))) := by
  refine h.row hn fun e he => ?_
  rw [hn] at he
  simp only [Nat.zero_add, lsF_at, getD_app he]
  rw [decide_eq_false (Nat.not_lt_zero e)]
  exact h.mixF _ _
theorem getD_eraseIdx {l : List α} {i j : Nat} : (l.eraseIdx i).getD j default = if j < i then l.getD j default else l.getD (j + 1) default := by
  rw [List.getD_eq_getElem?_getD, List.getElem?_eraseIdx]
  split <;> rw [List.getD_eq_getElem?_getD]
theorem Cod.mixE (h : Cod c sz) {b : Bool} {x y : List AV} {u v : α} (hx : x = c u) (hy : y = c v) : mixL b x y = c (bif b then u else v) := by rw [hx, hy, h.mix]
theorem Cod.del (h : Cod c sz) (l junk : List α) (z : α) {i n : Nat} (hn : n = l.length) (hi : i < l.length) :
    OLe (some (.arr sz (l ++ junk).length fun j => mixL (decide (i + (n - (i + 1)) ≤ j) && decide (j < i + (n - (i + 1)) + (n - (i + (n - (i + 1)))))) (c z)
      (mixL (decide (i ≤ j) && decide (j < i + (n - (i + 1)))) (lsF c (l ++ junk) (i + 1 + (j - i))) (lsF c (l ++ junk) j))))
      (some (.arr sz (l.eraseIdx i ++ (z :: junk)).length (lsF c (l.eraseIdx i ++ (z :: junk))))) := by
  subst hn
  have hle : (l.eraseIdx i).length = l.length - 1 := List.length_eraseIdx_of_lt hi
  refine h.row (by simp [hle]; omega) fun e he => ?_
  simp only [lsF_at, h.mix]
  refine congrArg c ?_
  simp only [cond_eq_ite, Bool.and_eq_true, decide_eq_true_eq]
  rcases Nat.lt_trichotomy e (l.length - 1) with h1 | h1 | h1
  · rw [if_neg (by omega), getD_app (l := l.eraseIdx i) (by omega), getD_eraseIdx]
    by_cases h2 : i ≤ e
    · rw [if_pos (by omega), if_neg (by omega), show i + 1 + (e - i) = e + 1 by omega, getD_app (by omega)]
    · rw [if_neg (by omega), if_pos (by omega), getD_app (by omega)]
  · rw [if_pos (by omega), getD_app' (l := l.eraseIdx i) (by omega), hle, h1, Nat.sub_self]
    rfl
  · rw [if_neg (by omega), if_neg (by omega), getD_app' (l := l.eraseIdx i) (by omega), getD_app' (by omega), hle]
    rw [show e - (l.length - 1) = (e - l.length) + 1 by omega]
    rfl
theorem chain_nil (z : List AV) (i k : Nat) : chain z i [] k = z := rfl
theorem Cod.chain1 (h : Cod c sz) (z x : α) (k : Nat) : chain (c z) 0 [c x] k = c (bif Nat.beq k 0 then x else z) := h.mix _ x z
theorem Cod.app2 (h : Cod c sz) (l junk : List α) (x z z' : α) {n N : Nat} (hn : n = l.length) (hN : N = l.length + 1) :
    OLe (some (.arr sz N fun j => mixL (decide (j < n)) (mixL (decide (j < 0)) (chain (c z') 0 [] j) (lsF c (l ++ junk) j)) (chain (c z) 0 [c x] (j - n)))) (some (.arr sz (l ++ [x]).length (lsF c (l ++ [x])))) := by
  subst hn; subst hN
  refine h.row (by simp) fun e he => ?_
  simp only [lsF_at, chain_nil, h.chain1, h.mix]
  refine congrArg c ?_
  rw [decide_eq_false (Nat.not_lt_zero e)]
  simp only [cond_false]
  by_cases hl : e < l.length
  · rw [decide_eq_true hl, getD_app hl, getD_app hl]; rfl
  · have he' : e = l.length := by omega
    subst he'
    rw [decide_eq_false hl, getD_app' (l := l) (r := [x]) (Nat.le_refl _), Nat.sub_self]; rfl
theorem Cod.del2 (h : Cod c sz) (l junk : List α) (z : α) {i N : Nat} (hi : i < l.length) (hN : N = l.length - 1) :
    OLe (some (.arr sz N fun j => mixL (decide (j < i)) (mixL (decide (j < 0)) (chain (c z) 0 [] j) (lsF c (l ++ junk) j)) (lsF c (l ++ junk) (i + 1 + (j - i))))) (some (.arr sz (l.eraseIdx i).length (lsF c (l.eraseIdx i)))) := by
  subst hN
  have hle : (l.eraseIdx i).length = l.length - 1 := List.length_eraseIdx_of_lt hi
  refine h.row hle.symm fun e he => ?_
  simp only [lsF_at, chain_nil, h.mix]
  refine congrArg c ?_
  rw [decide_eq_false (Nat.not_lt_zero e), getD_eraseIdx]
  simp only [cond_false]
  by_cases hl : e < i
  · rw [decide_eq_true hl, getD_app (by omega), if_pos hl]; rfl
  · rw [decide_eq_false hl, if_neg hl, show i + 1 + (e - i) = e + 1 by omega, getD_app (l := l) (r := junk) (j := e + 1) (by omega)]; rfl
theorem cl_false {p : Prop} : cl p = false ↔ ¬ p := by
  rw [← Bool.not_eq_true, cl_iff]
theorem sat_brT {β : Type} {t e : Tree β} {Q : β → Prop} : (Tree.br true t e).sat Q = t.sat Q := by simp
theorem sat_brF {β : Type} {t e : Tree β} {Q : β → Prop} : (Tree.br false t e).sat Q = e.sat Q := by simp
theorem sat_chkT {β : Type} {t : Tree β} {Q : β → Prop} : (Tree.chk true t).sat Q = t.sat Q := by simp
end
section
variable {P : Program} {Γ : Nat → AV} {X : Type} {S : X → List AV × Heap} {pre : X → Prop} {O : X → Out} {μ : X → Nat} {n : Nat} {o : Out} {fr : List AV} {H : Heap}
theorem owesN : OwesA S pre O μ n o ⟨.normal, fr, H⟩ = ∃ x', LeL fr (S x').1 ∧ LeH H (S x').2 ∧ pre x' ∧ O x' = o ∧ μ x' < n := rfl
theorem owesX {id : Nat} : OwesA S pre O μ n o ⟨.exit id, fr, H⟩ = (.exit id = o.ex ∧ LeL fr o.fr ∧ LeH H o.H) := rfl
theorem owesR : OwesA S pre O μ n o ⟨.ret, fr, H⟩ = (.ret = o.ex ∧ LeL fr o.fr ∧ LeH H o.H) := rfl
theorem RoundOK.of {m N k : Nat} {b : Code} {live : List Nat} {nils : List (Nat × TypeId)} {s : List AV × Heap} {Q : Out → Prop} {T : List (CT P Γ)} {L : Nat → LSpec} {ip : Bool}
    (hL : ∀ (j : Nat) (b' : Code), (loopBodies b)[j]? = some b' → LoopOK P Γ m N b' (L (k + j))) {t : Tree Out} (e : roundE T L ip m k b live nils N s.1 s.2 = t) (h : t.sat Q) : RoundOK P Γ m N k b live nils s Q :=
  ⟨T, L, ip, hL, by rw [e]; exact h⟩
end
def lArg {α : Type} [Inhabited α] (c : α → List AV) (sz : Nat) : Option (List α) → AV
  | none => .v (.slice none 0 0)
  | some l => .sl sz l.length (lsF c l)
theorem V0.slCongr {σ : Store} {sz m m' : Nat} {f f' : Nat → List AV} {v : Value} (h : V0 σ (.sl sz m f) v) (hm : m' = m) (he : ∀ e, e < m → f' e = f e) (hl : ∀ e, (f' e).length = sz) (hk : mkd (f' m') = false) : V0 σ (.sl sz m' f') v := by
  subst hm
  cases h with
  | sl _ _ _ ad cap ys hs hn _ hm ho hv => exact .sl sz _ f' ad cap ys hs hn hl (fun e j c h1 h2 => hm e j c h1 (he e h1 ▸ h2)) (fun e j c h1 h2 => ho e j c h1 (he e h1 ▸ h2)) (fun e j c h1 h2 => hv e j c h1 (he e h1 ▸ h2))
  | slnil _ _ _ A cap _ hn ha => exact .slnil sz _ f' A cap hl hn (fun _ => hk)
section
open Go.ChangeShapes
variable {H : Type} {enc : TypeId × Value → H} {P : Program} {w : World} {base : Nat} {sp : Nat → Bool} {held : Bool}
theorem open_slO {α : Type} [Inhabited α] (D : Nat) (cells : α → List Value) (c : α → List AV) {ks : List Cel} {sz : Nat} (hsz : ks.length = sz) (hcl : ∀ a, (cells a).length = sz) (hc0 : ∀ a, (cells a).map AV.v = c a) (hdec : ∀ vs, GoodVs ks vs → ∃ a, vs = cells a) (hm : mkd (c default) = false)
    {t e : TypeId} {v : Value} {r : Reach} {b0 : Nat} {d : DataW H} {ps : List MemPlace} (ht : P.underlying t = some (.slice e)) (hk : ckT P D e = some ks) (hc : P.cellsOf e = sz)
    (hval : Value.okWide P w r b0 t v) (h : DataW.Trod enc P w base sp held t v d ps) :
    ∃ x : Option (List α), V0 (σof w) (lArg c sz x) v ∧ ∀ l, x = some l → ∀ i, i < l.length → GoodVs ks (cells (l.getD i default)) := by
  rcases open_slG D cells hsz hcl hdec ht hk hc hval h with rfl | ⟨m, g, h1, h2⟩
  · exact ⟨none, .v _, fun l h => by simp at h⟩
  · have hg : ∀ e, e < m → ((List.range m).map g).getD e default = g e := fun e he => by
      rw [List.getD_eq_getElem?_getD, List.getElem?_map, List.getElem?_range he]; rfl
    refine ⟨some ((List.range m).map g), h1.slCongr (by simp) (fun e he => ?_) (fun e => by show (c _).length = sz; rw [← hc0]; simp [hcl]) (by rw [lsF_at, List.getD_eq_getElem?_getD, List.getElem?_eq_none (Nat.le_refl _)]; exact hm), fun l hl i hi => ?_⟩
    · rw [lsF_at, hg e he, hc0]
    · simp only [Option.some.injEq] at hl
      subst hl
      have hi' : i < m := by simpa using hi
      rw [hg i hi']
      exact h2 i hi'
theorem open_slL {α : Type} [Inhabited α] (D : Nat) (cells : α → List Value) (c : α → List AV) {ks : List Cel} {sz : Nat} (hsz : ks.length = sz) (hcl : ∀ a, (cells a).length = sz) (hc0 : ∀ a, (cells a).map AV.v = c a) (hdec : ∀ vs, GoodVs ks vs → ∃ a, vs = cells a) (hm : mkd (c default) = false)
    {t e : TypeId} {v : Value} {r : Reach} {b0 : Nat} {d : DataW H} {ps : List MemPlace} (ht : P.underlying t = some (.slice e)) (hk : ckT P D e = some ks) (hc : P.cellsOf e = sz)
    (hval : Value.okWide P w r b0 t v) (h : DataW.Trod enc P w base sp held t v d ps) :
    ∃ l : List α, V0 (σof w) (.sl sz l.length (lsF c l)) v ∧ ∀ i, i < l.length → GoodVs ks (cells (l.getD i default)) := by
  obtain ⟨x, h1, h2⟩ := open_slO D cells c hsz hcl hc0 hdec hm ht hk hc hval h
  cases x with
  | none =>
    cases h1
    exact ⟨[], .slnil sz 0 _ none 0 (fun e => by show (c _).length = sz; rw [← hc0]; simp [hcl]) rfl (fun _ => hm), fun i hi => absurd hi (Nat.not_lt_zero i)⟩
  | some l => exact ⟨l, h1, h2 l rfl⟩
end
theorem failOK {P : Program} {Γ : Nat → AV} {m N : Nat} {c : Code} {L : Nat → LSpec} (h : ∀ j, ∀ vals H, (L j).spec vals H = .fail) : ∀ (j : Nat) (b : Code), (loopBodies c)[j]? = some b → LoopOK P Γ m N b (L j) := fun j b _ vals H o ho => by
  rw [h j] at ho; simp [Tree.get] at ho
section
variable {P : Program} {Γ : Nat → AV}
theorem Contract.res {f : FuncId} {args : List AV} {Hin : List Blk} {r r' : Res} (h : Contract P Γ f args Hin r) (hv : AV.le r.val r'.val) (hH : LeH (r.heap Hin) (r'.heap Hin)) : Contract P Γ f args Hin r' := by
  intro σ φ w vals hG hV hn hR
  exact (h σ φ w vals hG hV hn hR).mono fun e w' ⟨σ', φ', v, e1, e2, e3, e4, e5⟩ => ⟨σ', φ', v, e1, hv.v e2, e3.le (fun i b' hb => hH.get i b' hb), e4, fun k hk => e5 k (by rw [hH.len]; exact hk)⟩
noncomputable def cloneSpecL {α : Type} [Inhabited α] (c : α → List AV) (sz : Nat) (args : List AV) (Hin : List Blk) : Tree Res := match args with
  | [.hs i e n] => match Hin with
    | [.arr sz' N f] => .chk (Nat.beq i 0 && Nat.beq e 0 && Nat.beq sz' sz) (.chk (cl (n ≤ 1000000000 ∧ ∃ l junk : List α, n = l.length ∧ N = (l ++ junk).length ∧ ∀ e, f e = c ((l ++ junk).getD e default))) (.leaf { val := .hs 1 0 n, new := [.arr sz n f] }))
    | _ => .fail
  | _ => .fail
noncomputable def CT.clone {α : Type} [Inhabited α] {c : α → List AV} {sz : Nat} (hc : Cod c sz) (f : FuncId) (h : ∀ l junk : List α, l.length ≤ 1000000000 → Answers P Γ f [.hs 0 0 l.length] [.arr sz (l ++ junk).length (lsF c (l ++ junk))] (.hs 1 0 l.length) [some (.arr sz (l ++ junk).length (lsF c (l ++ junk)))] [.arr sz l.length (lsF c l)]) : CT P Γ where
  f := f
  spec := cloneSpecL c sz
  enters := (h [] [] (by simp)).enters
  ok := fun args Hin r hr => by
    unfold cloneSpecL at hr
    split at hr
    · split at hr
      · obtain ⟨h1, hr⟩ := Tree.chk_get hr
        obtain ⟨h2, hr⟩ := Tree.chk_get hr
        obtain rfl := Tree.leaf_get hr
        obtain ⟨hn, l, junk, rfl, rfl, hf⟩ := cl_iff.1 h2
        simp only [Bool.and_eq_true] at h1
        obtain rfl := Nat.eq_of_beq_eq_true h1.1.1
        obtain rfl := Nat.eq_of_beq_eq_true h1.1.2
        obtain rfl := Nat.eq_of_beq_eq_true h1.2
        obtain rfl : _ = lsF c (l ++ junk) := funext hf
        refine (h l junk hn).ok.res (.refl _) ⟨OLe.refl _, ?_, trivial⟩
        exact OLe.arr rfl (fun e he => by rw [lsF_at, lsF_at, getD_app he]) (fun e => hc.len _)
      · simp [Tree.get] at hr
    · simp [Tree.get] at hr
end
theorem twoLoops {P : Program} {Γ : Nat → AV} {m N : Nat} {c b b' : Code} {L : Nat → LSpec} (h : loopBodies c = [b, b']) (h0 : LoopOK P Γ m N b (L 0)) (h1 : LoopOK P Γ m N b' (L 1)) : ∀ (j : Nat) (b : Code), (loopBodies c)[j]? = some b → LoopOK P Γ m N b (L j) := by
  intro j b hj
  rw [h] at hj
  match j, hj with
  | 0, hj => simp at hj; subst hj; exact h0
  | 1, hj => simp at hj; subst hj; exact h1
  | j + 2, hj => simp at hj
theorem threeLoops {P : Program} {Γ : Nat → AV} {m N : Nat} {c b b' b2 : Code} {L : Nat → LSpec} (h : loopBodies c = [b, b', b2]) (h0 : LoopOK P Γ m N b (L 0)) (h1 : LoopOK P Γ m N b' (L 1)) (h2 : LoopOK P Γ m N b2 (L 2)) : ∀ (j : Nat) (b : Code), (loopBodies c)[j]? = some b → LoopOK P Γ m N b (L j) := by
  intro j b hj
  rw [h] at hj
  match j, hj with
  | 0, hj => simp at hj; subst hj; exact h0
  | 1, hj => simp at hj; subst hj; exact h1
  | 2, hj => simp at hj; subst hj; exact h2
  | j + 3, hj => simp at hj
section
variable {P : Program} {Γ : Nat → AV}
noncomputable def parSpec {X : Type} (ext : List AV → List Blk → Option X) (pre : X → Prop) (A : X → List AV) (H0 : X → List Blk) (v : X → AV) (H1 : X → List (Option Blk)) (new : X → List Blk) (args : List AV) (Hin : List Blk) : Tree Res :=
  match ext args Hin with
  | some x => .chk (cl (pre x ∧ LeL args (A x) ∧ LeH (Hin.map some) ((H0 x).map some))) (.leaf { val := v x, upd := (H1 x).map some, new := new x })
  | none => .fail
noncomputable def CT.par {X : Type} (f : FuncId) (ext : List AV → List Blk → Option X) (pre : X → Prop) (A : X → List AV) (H0 : X → List Blk) (v : X → AV) (H1 : X → List (Option Blk)) (new : X → List Blk)
    (enters : ∀ (args : Array Value) (w : World), (callFunc f args).run P w = .ok (.enter f args) w) (h : ∀ x, pre x → Answers P Γ f (A x) (H0 x) (v x) (H1 x) (new x)) : CT P Γ where
  f := f
  spec := parSpec ext pre A H0 v H1 new
  enters := enters
  ok := fun args Hin r hr => by
    unfold parSpec at hr
    split at hr
    · rename_i x hx
      obtain ⟨h1, hr⟩ := Tree.chk_get hr
      obtain ⟨hp, hv, hH⟩ := cl_iff.1 h1
      exact (CT.at f (h x hp)).ok args Hin r (by
        show (atSpec (A x) (H0 x) (v x) (H1 x) (new x) args Hin).get = some r
        unfold atSpec
        rw [cl_iff.2 ⟨hv, hH⟩]
        exact hr)
    · simp [Tree.get] at hr
end
theorem sat_brN {β : Type} {c : Bool} {t e : Tree β} {Q : β → Prop} : (Tree.br c t e).sat Q = ((c = true → t.sat Q) ∧ (¬ c = true → e.sat Q)) := by
  cases c <;> simp
theorem notT {b : Bool} : ((!b) = true) = ¬ (b = true) := by cases b <;> simp
end Go.Eng

namespace Go.Eng
open Go
section
variable {P : Program} {Γ : Nat → AV}
theorem getHmap (l : List Blk) (k : Nat) : getH (l.map some) k = l[k]? := by
  unfold getH
  rw [List.getElem?_map]
  cases l[k]? <;> rfl
theorem Contract.box {f : FuncId} {args : List AV} {Hin : List Blk} {i c sz : Nat} {cs : List AV} {g : Nat → List AV} {r r' : Res} (hg : Hin[i]? = some (.row cs)) (hc : cs[c]? = some (.v (.slice none 0 0))) (hz : ∀ e, (g e).length = sz)
    (h : Contract P Γ f args (Hin.set i (.row (cs.set c (.hs Hin.length 0 0))) ++ [.arr sz 0 g]) r) (hv : r'.val = r.val) (hh : r'.heap Hin = r.heap (Hin.set i (.row (cs.set c (.hs Hin.length 0 0))) ++ [.arr sz 0 g])) :
    Contract P Γ f args Hin r' := by
  intro σ φ w vals hG hV hn hR
  have hnb := hn Hin.length (Nat.le_refl _)
  let L0 : Lc := ⟨0, 0, sz, 0, 0, true⟩
  have hle := fresh_le hnb L0
  have hB : (fun b => ∃ k L, φ k = some L ∧ L.virt = false ∧ L.b = b) = (fun b => ∃ k L, fresh φ Hin.length L0 k = some L ∧ L.virt = false ∧ L.b = b) := by
    funext b
    refine propext ⟨fun ⟨k, L, h1, h2, h3⟩ => ⟨k, L, hle k L h1, h2, h3⟩, fun ⟨k, L, h1, h2, h3⟩ => ?_⟩
    by_cases e : k = Hin.length
    · subst e
      rw [fresh_at] at h1
      cases h1
      simp [L0] at h2
    · simp only [fresh, e, if_false] at h1
      exact ⟨k, L, h1, h2, h3⟩
  have hR1 := hR.virtual (L := L0) hnb rfl (some (.arr sz 0 g)) (fun b' hb' => by simp at hb'; subst hb'; exact hz) (fun _ _ _ h' => by cases h'; rfl)
  have hg1 : updG (getH (Hin.map some)) Hin.length (some (Blk.arr sz 0 g)) = getH (Hin.map some ++ [some (Blk.arr sz 0 g)]) := by
    have := fun j => getH_append (H := Hin.map some) (bs := [Blk.arr sz 0 g]) (k := j)
    funext j
    have h1 := this j
    rw [List.length_map] at h1
    exact h1.symm
  rw [hg1] at hR1
  have hil : i < Hin.length := (List.getElem?_eq_some_iff.1 hg).1
  have hg2 : getH (Hin.map some ++ [some (Blk.arr sz 0 g)]) i = some (.row cs) := by
    rw [← hg1]
    have : i ≠ Hin.length := by omega
    simp only [updG, this, if_false]
    rw [getHmap, hg]
  have hR2 := hR1.setRow (x' := .hs Hin.length 0 0) hg2 hc (fun y hy => by
    have := hy.v_eq
    subst this
    exact .hsnil none fresh_at (Nat.le_refl 0) rfl)
  have hH : (Hin.map some ++ [some (Blk.arr sz 0 g)]).set i (some (.row (cs.set c (.hs Hin.length 0 0)))) = (Hin.set i (.row (cs.set c (.hs Hin.length 0 0))) ++ [Blk.arr sz 0 g]).map some := by
    rw [List.set_append_left _ _ (by simpa using hil), List.map_append, List.map_set]
    rfl
  rw [hH] at hR2
  have hlen : (Hin.set i (.row (cs.set c (.hs Hin.length 0 0))) ++ [Blk.arr sz 0 g]).length = Hin.length + 1 := by simp
  rw [hB] at hR2 ⊢
  refine (h σ (fresh φ Hin.length L0) w vals hG ⟨hV.1, fun j a y ha hy => (hV.2 j a y ha hy).mono (Store.le_refl σ) hle⟩ (fun k hk => ?_) hR2).mono fun e w' ⟨σ', φ', v, e1, e2, e3, e4, e5⟩ => ⟨σ', φ', v, e1, by rw [hv]; exact e2, by rw [hh]; exact e3, fun k hk => ?_, by rw [hh]; exact e5⟩
  · rw [hlen] at hk
    have : k ≠ Hin.length := by omega
    simp only [fresh, this, if_false]
    exact hn k (by omega)
  · rw [e4 k (by rw [hlen]; omega)]
    have : k ≠ Hin.length := by omega
    simp only [fresh, this, if_false]
theorem Answers.box {f : FuncId} {args : List AV} {Hin : List Blk} (i c : Nat) {sz : Nat} {cs : List AV} {g : Nat → List AV} {v : AV} {H1 : List (Option Blk)} {b : Blk} {new : List Blk} (hg : Hin[i]? = some (.row cs)) (hc : cs[c]? = some (.v (.slice none 0 0))) (hz : ∀ e, (g e).length = sz) (hl : H1.length = Hin.length)
    (h : Answers P Γ f args (Hin.set i (.row (cs.set c (.hs Hin.length 0 0))) ++ [.arr sz 0 g]) v (H1 ++ [some b]) new) : Answers P Γ f args Hin v H1 (b :: new) where
  len := hl
  enters := h.enters
  ok := h.ok.box hg hc hz rfl (by
    show outOf Hin (H1.map some) ++ _ = outOf _ ((H1 ++ [some b]).map some) ++ _
    rw [outOf_all _ _ hl, outOf_all _ _ (by simp [hl])]
    simp)
end
section
open Go.ChangeShapes Go.RowKit
variable {H : Type} {enc : TypeId × Value → H} {P : Program} {w : World} {base : Nat} {spare : Nat → Bool} {held : Bool}
theorem trodAll_five {t0 t1 t2 t3 t4 : TypeId} {args : Array Value} {ds : List (DataW H)} {ps : List MemPlace} (h : DataW.TrodAll enc P w base spare held [t0, t1, t2, t3, t4] args.toList ds ps) :
    ∃ v0 v1 v2 v3 v4 d0 d1 d2 d3 d4 p0 p1 p2 p3 p4, args = #[v0, v1, v2, v3, v4] ∧ ds = [d0, d1, d2, d3, d4] ∧ ps = p0 ++ p1 ++ p2 ++ p3 ++ p4 ∧ DataW.Trod enc P w base spare held t0 v0 d0 p0 ∧ DataW.Trod enc P w base spare held t1 v1 d1 p1 ∧
      DataW.Trod enc P w base spare held t2 v2 d2 p2 ∧ DataW.Trod enc P w base spare held t3 v3 d3 p3 ∧ DataW.Trod enc P w base spare held t4 v4 d4 p4 := by
  obtain ⟨v0, s0, d0, e0, p0, q0, hargs, rfl, rfl, h0, r0⟩ := trodAll_cons h
  obtain ⟨v1, s1, d1, e1, p1, q1, rfl, rfl, rfl, h1, r1⟩ := trodAll_cons r0
  obtain ⟨v2, s2, d2, e2, p2, q2, rfl, rfl, rfl, h2, r2⟩ := trodAll_cons r1
  obtain ⟨v3, s3, d3, e3, p3, q3, rfl, rfl, rfl, h3, r3⟩ := trodAll_cons r2
  obtain ⟨v4, s4, d4, e4, p4, q4, rfl, rfl, rfl, h4, r4⟩ := trodAll_cons r3
  obtain ⟨rfl, rfl, rfl⟩ := trodAll_nil r4
  exact ⟨v0, v1, v2, v3, v4, d0, d1, d2, d3, d4, p0, p1, p2, p3, p4, by cases args; simp_all, rfl, by simp, h0, h1, h2, h3, h4⟩
end
end Go.Eng

namespace Go.Eng
open Go
section
open Go.ChangeShapes Go.RowKit
variable {H : Type} {enc : TypeId × Value → H} {P : Program} {w : World} {base : Nat} {spare : Nat → Bool} {held : Bool}
theorem trodAll_six {t0 t1 t2 t3 t4 t5 : TypeId} {args : Array Value} {ds : List (DataW H)} {ps : List MemPlace} (h : DataW.TrodAll enc P w base spare held [t0, t1, t2, t3, t4, t5] args.toList ds ps) :
    ∃ v0 v1 v2 v3 v4 v5 d0 d1 d2 d3 d4 d5 p0 p1 p2 p3 p4 p5, args = #[v0, v1, v2, v3, v4, v5] ∧ ds = [d0, d1, d2, d3, d4, d5] ∧ ps = p0 ++ p1 ++ p2 ++ p3 ++ p4 ++ p5 ∧ DataW.Trod enc P w base spare held t0 v0 d0 p0 ∧ DataW.Trod enc P w base spare held t1 v1 d1 p1 ∧
      DataW.Trod enc P w base spare held t2 v2 d2 p2 ∧ DataW.Trod enc P w base spare held t3 v3 d3 p3 ∧ DataW.Trod enc P w base spare held t4 v4 d4 p4 ∧ DataW.Trod enc P w base spare held t5 v5 d5 p5 := by
  obtain ⟨v0, s0, d0, e0, p0, q0, hargs, rfl, rfl, h0, r0⟩ := trodAll_cons h
  obtain ⟨v1, s1, d1, e1, p1, q1, rfl, rfl, rfl, h1, r1⟩ := trodAll_cons r0
  obtain ⟨v2, s2, d2, e2, p2, q2, rfl, rfl, rfl, h2, r2⟩ := trodAll_cons r1
  obtain ⟨v3, s3, d3, e3, p3, q3, rfl, rfl, rfl, h3, r3⟩ := trodAll_cons r2
  obtain ⟨v4, s4, d4, e4, p4, q4, rfl, rfl, rfl, h4, r4⟩ := trodAll_cons r3
  obtain ⟨v5, s5, d5, e5, p5, q5, rfl, rfl, rfl, h5, r5⟩ := trodAll_cons r4
  obtain ⟨rfl, rfl, rfl⟩ := trodAll_nil r5
  exact ⟨v0, v1, v2, v3, v4, v5, d0, d1, d2, d3, d4, d5, p0, p1, p2, p3, p4, p5, by cases args; simp_all, rfl, by simp, h0, h1, h2, h3, h4, h5⟩
end
end Go.Eng

namespace Go.Eng
open Go
section
variable {P : Program} {Γ : Nat → AV}
def ofS : List AV → List Blk → Option ByteArray
  | [.v (.string s)], [] => some s
  | _, _ => none
def ofSI : List AV → List Blk → Option (ByteArray × Int)
  | [.v (.string s), .v (.int _ n)], [] => some (s, n)
  | _, _ => none
def ofSS : List AV → List Blk → Option (ByteArray × ByteArray)
  | [.v (.string s), .v (.string t)], [] => some (s, t)
  | _, _ => none
def ofI : List AV → List Blk → Option Int
  | [.v (.int _ n)], [] => some n
  | _, _ => none
noncomputable def CT.oS (f : FuncId) {fn : Func} (hf : P.funcs[f]? = some fn) (hb : fn.body.isSome = true) (hn : (fn.name == "runtime.NumGoroutine") = false) (pre : ByteArray → Prop) (g : ByteArray → AV) (new : ByteArray → List Blk)
    (h : ∀ s, pre s → Answers P Γ f [.v (.string s)] [] (g s) [] (new s)) : CT P Γ :=
  CT.par f ofS pre (fun s => [.v (.string s)]) (fun _ => []) g (fun _ => []) new (callFunc_enters hf hb hn) h
noncomputable def CT.oSI (f : FuncId) {fn : Func} (hf : P.funcs[f]? = some fn) (hb : fn.body.isSome = true) (hn : (fn.name == "runtime.NumGoroutine") = false) (pre : ByteArray × Int → Prop) (g : ByteArray × Int → AV) (new : ByteArray × Int → List Blk)
    (h : ∀ x : ByteArray × Int, pre x → Answers P Γ f [.v (.string x.1), .v (.int .i64 x.2)] [] (g x) [] (new x)) : CT P Γ :=
  CT.par f ofSI pre (fun x => [.v (.string x.1), .v (.int .i64 x.2)]) (fun _ => []) g (fun _ => []) new (callFunc_enters hf hb hn) h
noncomputable def CT.oSS (f : FuncId) {fn : Func} (hf : P.funcs[f]? = some fn) (hb : fn.body.isSome = true) (hn : (fn.name == "runtime.NumGoroutine") = false) (pre : ByteArray × ByteArray → Prop) (g : ByteArray × ByteArray → AV) (new : ByteArray × ByteArray → List Blk)
    (h : ∀ x : ByteArray × ByteArray, pre x → Answers P Γ f [.v (.string x.1), .v (.string x.2)] [] (g x) [] (new x)) : CT P Γ :=
  CT.par f ofSS pre (fun x => [.v (.string x.1), .v (.string x.2)]) (fun _ => []) g (fun _ => []) new (callFunc_enters hf hb hn) h
noncomputable def CT.oI (f : FuncId) (k : IntKind) {fn : Func} (hf : P.funcs[f]? = some fn) (hb : fn.body.isSome = true) (hn : (fn.name == "runtime.NumGoroutine") = false) (pre : Int → Prop) (g : Int → AV) (new : Int → List Blk)
    (h : ∀ n, pre n → Answers P Γ f [.v (.int k n)] [] (g n) [] (new n)) : CT P Γ :=
  CT.par f ofI pre (fun n => [.v (.int k n)]) (fun _ => []) g (fun _ => []) new (callFunc_enters hf hb hn) h
theorem tup2 {a b a' b' : AV} (h1 : AV.le a a') (h2 : AV.le b b') : AV.le (.tup [a, b]) (.tup [a', b']) := le_tup ⟨h1, h2, trivial⟩
theorem tup3 {a b c a' b' c' : AV} (h1 : AV.le a a') (h2 : AV.le b b') (h3 : AV.le c c') : AV.le (.tup [a, b, c]) (.tup [a', b', c']) := le_tup ⟨h1, h2, h3, trivial⟩
theorem leI {k : IntKind} {a b : Int} (h : a = b) : AV.le (.v (.int k a)) (.v (.int k b)) := by rw [h]; exact .refl _
theorem leS {a b : ByteArray} (h : a = b) : AV.le (.v (.string a)) (.v (.string b)) := by rw [h]; exact .refl _
theorem leB {a b : Bool} (h : a = b) : AV.le (.v (.bool a)) (.sb b) := by rw [h]; exact .bs _
theorem leB' {a b : Bool} (h : a = b) : AV.le (.sb a) (.sb b) := by rw [h]; exact .refl _
end
end Go.Eng
namespace Go.Eng
open Go
theorem wC {β : Type} {c : Bool} {t : Tree β} {Q : β → Prop} (h : c = true) (k : t.sat Q) : (Tree.chk c t).sat Q := ⟨h, k⟩
theorem wT {β : Type} {c : Bool} {t e : Tree β} {Q : β → Prop} (h : c = true) (k : t.sat Q) : (Tree.br c t e).sat Q := by subst h; exact ⟨fun _ => k, fun h => by cases h⟩
theorem wS {β : Type} {c : Bool} {t e : Tree β} {Q : β → Prop} (h : c = true → t.sat Q) (k : ¬ c = true → e.sat Q) : (Tree.br c t e).sat Q := ⟨h, fun h' => k (by rw [h']; decide)⟩
theorem wF {β : Type} {c : Bool} {t e : Tree β} {Q : β → Prop} (h : ¬ c = true) (k : e.sat Q) : (Tree.br c t e).sat Q := ⟨fun h' => absurd h' h, fun _ => k⟩
theorem condIT {c a b : Bool} : ((bif c then a else b) = true) = ((c = true ∧ a = true) ∨ (¬ (c = true) ∧ b = true)) := by
  cases c <;> simp
theorem W1 : (∀ p : Prop, cl p = true ↔ p) ∧ (∀ x : AV, AV.le x x = True) ∧ (∀ x : AV, AV.le x .any = True) ∧ (∀ x : Option Blk, OLe x x = True) ∧
    (∀ (x : Option Blk) (xs : Heap) (y : Option Blk) (ys : Heap), LeH (x :: xs) (y :: ys) = (OLe x y ∧ LeH xs ys)) ∧ (LeH [] [] = True) ∧
    (∀ (x : AV) (xs : List AV) (y : AV) (ys : List AV), LeL (x :: xs) (y :: ys) = (AV.le x y ∧ LeL xs ys)) ∧ (LeL [] [] = True) ∧ (∀ p : Prop, (p ∧ True) = p) ∧ (∀ p : Prop, (True ∧ p) = p) ∧
    (∀ a b : Bool, ((a && b) = true) = (a = true ∧ b = true)) ∧ (∀ a b : Bool, ((a || b) = true) = (a = true ∨ b = true)) ∧ (∀ (p : Prop) [Decidable p], (decide p = true) = p) ∧
    (∀ b : Bool, ((!b) = true) = ¬ (b = true)) ∧ (∀ c b : Bool, (bif c then true else b) = (c || b)) ∧ (∀ c b : Bool, (bif c then b else false) = (c && b)) ∧
    (∀ n m : Nat, (Nat.blt n m = true) = (n < m)) ∧ (∀ n : Nat, 0 + n = n) ∧ (∀ n : Nat, Int.toNat (n : Int) = n) ∧ (!true) = false ∧ (!false) = true ∧ ((false = true) = False) ∧
    ((¬ True) = False) ∧ ((¬ False) = True) ∧ (∀ p : Prop, (p ∨ False) = p) ∧ (∀ p : Prop, (False ∨ p) = p) ∧ (∀ p : Prop, (p ∨ True) = True) ∧ (∀ p : Prop, (True ∨ p) = True) ∧
    (∀ p : Prop, (p ∧ False) = False) ∧ (∀ p : Prop, (False ∧ p) = False) ∧ (∀ c a b : Bool, ((bif c then a else b) = true) = ((c = true ∧ a = true) ∨ (¬ (c = true) ∧ b = true))) := by
  refine ⟨fun p => cl_iff, fun x => eq_true (.refl x), fun x => eq_true (.any x), fun x => eq_true (OLe.refl x), fun x xs y ys => rfl, rfl, fun x xs y ys => rfl, rfl, and_true, true_and, fun a b => Bool.and_eq_true a b, fun a b => Bool.or_eq_true a b, fun p _ => decide_eq_true_eq, fun b => notT, fun c b => Bool.cond_true_left c b, fun c b => Bool.cond_false_right c b, fun n m => Nat.blt_eq, Nat.zero_add, Int.toNat_natCast, rfl, rfl, Bool.false_eq_true, not_true_eq_false, not_false_eq_true, or_false, false_or, or_true, true_or, and_false, false_and, fun c a b => condIT⟩
theorem W2 : ((true = false) = False) ∧ (∀ p : Prop, (False → p) = True) ∧ (∀ p : Prop, (True → p) = p) ∧ (∀ p : Prop, (p → True) = True) ∧ (∀ {β : Type} (t e : Tree β) (Q : β → Prop), (Tree.br true t e).sat Q = t.sat Q) ∧
    (∀ {β : Type} (t e : Tree β) (Q : β → Prop), (Tree.br false t e).sat Q = e.sat Q) ∧ (∀ {β : Type} (c : Bool) (t e : Tree β) (Q : β → Prop), (Tree.br c t e).sat Q = ((c = true → t.sat Q) ∧ (¬ c = true → e.sat Q))) ∧
    (∀ {β : Type} (c : Bool) (t : Tree β) (Q : β → Prop), (Tree.chk c t).sat Q = (c = true ∧ t.sat Q)) ∧ (∀ {β : Type} (a : β) (Q : β → Prop), (Tree.leaf a).sat Q = Q a) ∧ (∀ {β : Type} (Q : β → Prop), (Tree.fail : Tree β).sat Q = False) ∧
    (∀ p : Prop, cl p = false ↔ ¬ p) ∧ (∀ x : Option Blk, OLe x none = True) ∧ (∀ n : Nat, n - 0 = n) ∧ (∀ (p : Prop) [Decidable p], (decide p = false) ↔ ¬ p) ∧ (∀ (x : AV) (xs ys : List AV), (x :: xs) ++ ys = x :: (xs ++ ys)) ∧ (∀ ys : List AV, [] ++ ys = ys) ∧
    (∀ (x : Option Blk) (xs ys : Heap), (x :: xs) ++ ys = x :: (xs ++ ys)) ∧ (∀ ys : Heap, [] ++ ys = ys) ∧ (∀ (f : Blk → Option Blk) (x : Blk) (xs : List Blk), (x :: xs).map f = f x :: xs.map f) ∧ (∀ f : Blk → Option Blk, ([] : List Blk).map f = []) := by
  refine ⟨Bool.true_eq_false, false_implies, true_implies, fun p => implies_true p, fun t e Q => sat_brT, fun t e Q => sat_brF, fun c t e Q => sat_brN, fun c t Q => rfl, fun a Q => rfl, fun Q => rfl, fun p => cl_false, fun x => eq_true (OLe.none x), Nat.sub_zero, fun p _ => decide_eq_false_iff_not, fun _ _ _ => rfl, fun _ => rfl, fun _ _ _ => rfl, fun _ => rfl, fun _ _ _ => rfl, fun _ => rfl⟩
end Go.Eng

namespace Go.Eng
open Go Go.ChangeShapes
section
variable {H : Type} {enc : TypeId × Value → H} {P : Program} {w : World} {base : Nat} {sp : Nat → Bool} {held : Bool}
theorem trod_sl {α : Type} [Inhabited α] (c : α → List AV) {sz : Nat} (E : α → List Value → Prop) {e : TypeId} (hz : 0 < sz) (hc : P.cellsOf e = sz) (hm : mkd (c default) = false) (hcl : ∀ a, (c a).length = sz)
    (hE : ∀ fuel cs x, DataW.trod enc P w base sp held fuel e cs = some x → ∃ a, E a cs)
    (hV : ∀ a cs, E a cs → ∀ (j : Nat) (x : AV) (y : Value), (c a)[j]? = some x → cs[j]? = some y → V0 (σof w) x y ∧ y.oneCell' = true)
    {t : TypeId} {fuel : Nat} {cs : List Value} {x : DataW H × List MemPlace} (ht : P.underlying t = some (.slice e)) (h : DataW.trod enc P w base sp held fuel t cs = some x) :
    ∃ (v : Value) (l : List α), cs = [v] ∧ V0 (σof w) (.sl sz l.length (lsF c l)) v ∧ v.oneCell' = true ∧ ∀ i, i < l.length → ∃ vs, E (l.getD i default) vs := by
  have hd : ∀ e, (lsF c ([] : List α) e).length = sz := fun e => hcl _
  rcases DataW.trod_slice ht h with ⟨rfl, _⟩ | ⟨a, len, cap, elems, rest, n, _, rfl, _, hb, hl, hmx, hlen, hel, _, _⟩
  · exact ⟨_, [], rfl, .slnil sz 0 _ none 0 hd rfl (fun _ => hm), rfl, fun i hi => absurd hi (Nat.not_lt_zero _)⟩
  by_cases h0 : len = 0
  · subst h0
    exact ⟨_, [], rfl, .slnil sz 0 _ (some a) cap hd rfl (fun e => by cases e), rfl, fun i hi => absurd hi (Nat.not_lt_zero _)⟩
  have got : ∀ i, i < len → ∃ cs, w.cells? base (a.add (i * P.cellsOf e)) (P.cellsOf e) = some cs ∧ ∃ x, DataW.trod enc P w base sp held n e cs = some x := by
    intro i hi
    have h2 := hel i hi
    rw [List.getElem?_eq_getElem (by omega), Option.bind_eq_some_iff] at h2
    obtain ⟨cs, h3, h4⟩ := h2
    exact ⟨cs, h3, _, h4⟩
  have hsp : a.spot = none := by
    obtain ⟨cs, h3, _⟩ := got 0 (by omega)
    obtain ⟨_, h4, h5⟩ := World.cells?_some h3
    have h6 := h5 0 (by omega)
    rw [Nat.zero_mul] at h6
    have e1 : (a.add 0).add 0 = a := by unfold Addr.add; simp
    rw [e1, List.getElem?_eq_getElem (by omega)] at h6
    unfold World.cell? at h6
    split at h6
    · split at h6
      · cases h6
      · rename_i hs
        cases hsx : a.spot with
        | none => rfl
        | some _ => rw [hsx] at hs; simp at hs
    · cases h6
  have each : ∀ i, i < len → ∃ u : α, ∃ vs, E u vs ∧ vs.length = sz ∧ ∀ (j : Nat) (y : Value), vs[j]? = some y → σof w a.block (a.off + i * sz + j) = some y := by
    intro i hi
    obtain ⟨cs, h3, x, h4⟩ := got i hi
    obtain ⟨u, hu⟩ := hE n cs x h4
    obtain ⟨_, k1, k2⟩ := World.cells?_some h3
    refine ⟨u, cs, hu, by rw [k1, hc], fun j y hj => ?_⟩
    have hjl : j < sz := by have := (List.getElem?_eq_some_iff.1 hj).1; rw [k1, hc] at this; exact this
    have h5 := k2 j (by rw [hc]; exact hjl)
    rw [hj] at h5
    have e2 : (a.add (i * P.cellsOf e)).add j = ⟨a.block, a.off + i * sz + j, none⟩ := by
      rw [hc]
      unfold Addr.add
      obtain ⟨ab, ao, asp⟩ := a
      simp only at hsp
      subst hsp
      by_cases h0 : i * sz = 0
      · by_cases h1 : j = 0
        · simp [h0, h1]
        · simp [h0, h1]
      · by_cases h1 : j = 0
        · simp [h0, h1]
        · simp [h0, h1]
    rw [e2] at h5
    exact σof_of h5
  let g : Nat → α := fun i => if h : i < len then (each i h).choose else default
  have hg : ∀ i, i < len → ((List.range len).map g).getD i default = g i := fun i hi => by
    rw [List.getD_eq_getElem?_getD, List.getElem?_map, List.getElem?_range hi]; rfl
  have spec : ∀ i (hi : i < len), ∃ vs, E (g i) vs ∧ vs.length = sz ∧ ∀ (j : Nat) (y : Value), vs[j]? = some y → σof w a.block (a.off + i * sz + j) = some y := fun i hi => by
    show ∃ vs, E (if h : i < len then (each i h).choose else default) vs ∧ _
    rw [dif_pos hi]
    exact (each i hi).choose_spec
  refine ⟨_, (List.range len).map g, rfl, ?_, rfl, fun i hi => ?_⟩
  · have hln : ((List.range len).map g).length = len := by simp
    rw [hln]
    have at' : ∀ (e j : Nat) (x : AV), e < len → (lsF c ((List.range len).map g) e)[j]? = some x → ∃ y, σof w a.block (a.off + e * sz + j) = some y ∧ V0 (σof w) x y ∧ y.oneCell' = true := by
      intro e j x he hj
      rw [lsF_at, hg e he] at hj
      obtain ⟨vs, k1, k2, k3⟩ := spec e he
      have hjl : j < sz := by have := (List.getElem?_eq_some_iff.1 hj).1; rw [hcl] at this; exact this
      have hy : vs[j]? = some vs[j] := List.getElem?_eq_getElem (by omega)
      obtain ⟨k4, k5⟩ := hV _ _ k1 j x _ hj hy
      exact ⟨_, k3 j _ hy, k4, k5⟩
    have hval : ∀ (e j : Nat) (x : AV) (he : e < len) (hj : (lsF c ((List.range len).map g) e)[j]? = some x), σof w a.block (a.off + e * sz + j) = some ((σof w a.block (a.off + e * sz + j)).getD (.bool false)) ∧ V0 (σof w) x ((σof w a.block (a.off + e * sz + j)).getD (.bool false)) ∧ ((σof w a.block (a.off + e * sz + j)).getD (.bool false)).oneCell' = true := by
      intro e j x he hj
      obtain ⟨y, h1, h2, h3⟩ := at' e j x he hj
      rw [h1]
      exact ⟨rfl, h2, h3⟩
    exact .sl sz len _ a cap (fun e j => (σof w a.block (a.off + e * sz + j)).getD (.bool false)) hsp hl (fun i => hcl _) (fun e j x he hj => (hval e j x he hj).1) (fun e j x he hj => (hval e j x he hj).2.2) (fun e j x he hj => (hval e j x he hj).2.1)
  · have hi' : i < len := by simpa using hi
    rw [hg i hi']
    obtain ⟨vs, k1, _⟩ := spec i hi'
    exact ⟨vs, k1⟩
theorem flatE_V {α : Type} {cells : α → List Value} {c : α → List AV} {ks : List Cel} (hc0 : ∀ a, (cells a).map AV.v = c a) {σ : Store} (a : α) (cs : List Value) (h : cs = cells a ∧ GoodVs ks cs) (j : Nat) (x : AV) (y : Value) (hx : (c a)[j]? = some x) (hy : cs[j]? = some y) : V0 σ x y ∧ y.oneCell' = true := by
  obtain ⟨rfl, hg⟩ := h
  rw [← hc0, List.getElem?_map, hy] at hx
  simp only [Option.map_some, Option.some.injEq] at hx
  subst hx
  obtain ⟨k, hk⟩ := hg.at j y hy
  exact ⟨.v _, goodV_one hk⟩
theorem trod_three {fuel : Nat} {t : TypeId} {fs : Array Field} {f0 f1 f2 : Field} {cs : List Value} {x : DataW H × List MemPlace} {n0 n1 n2 : Nat} (hu : P.underlying t = some (.struct fs)) (hfs : fs.toList = [f0, f1, f2])
    (h0 : f0.offset = 0) (h1 : f1.offset = n0) (h2 : f2.offset = n0 + n1) (s0 : P.cellsOf f0.type = n0) (s1 : P.cellsOf f1.type = n1) (s2 : P.cellsOf f2.type = n2) (st : P.cellsOf t = n0 + n1 + n2)
    (h : DataW.trod enc P w base sp held fuel t cs = some x) :
    ∃ p0 p1 p2 fu y0 y1 y2, cs = p0 ++ p1 ++ p2 ∧ DataW.trod enc P w base sp held fu f0.type p0 = some y0 ∧ DataW.trod enc P w base sp held fu f1.type p1 = some y1 ∧ DataW.trod enc P w base sp held fu f2.type p2 = some y2 := by
  cases fuel with
  | zero => simp [DataW.trod] at h
  | succ fu =>
    obtain ⟨hl, r, hr⟩ := trod_struct hu h
    rw [hfs] at hr
    obtain ⟨y0, r0, k0, hr, _⟩ := mapM_head hr
    obtain ⟨y1, r1, k1, hr, _⟩ := mapM_head hr
    obtain ⟨y2, r2, k2, hr, _⟩ := mapM_head hr
    rw [h0, s0, List.drop_zero] at k0
    rw [h1, s1] at k1
    rw [h2, s2] at k2
    refine ⟨_, _, _, fu, y0, y1, y2, ?_, k0, k1, k2⟩
    rw [List.append_assoc, ← List.drop_drop]
    have e2 : List.take n2 (List.drop n1 (List.drop n0 cs)) = List.drop n1 (List.drop n0 cs) := List.take_of_length_le (by simp; omega)
    rw [e2, List.take_append_drop, List.take_append_drop]
end
end Go.Eng

namespace Go.Eng
open Go
section
variable {α : Type} [Inhabited α] {c : α → List AV} {sz : Nat}
theorem getD_setI {L : List α} {i j : Nat} {t : α} (hi : i < L.length) : (L.set i t).getD j default = if j = i then t else L.getD j default := by
  rw [List.getD_eq_getElem?_getD, List.getElem?_set]
  by_cases h : i = j
  · subst h; simp [hi]
  · have h' : ¬ j = i := fun e => h e.symm
    rw [if_neg h, if_neg h', List.getD_eq_getElem?_getD]
theorem Cod.set (h : Cod c sz) (L : List α) {i N : Nat} (t : α) (hi : i < L.length) (hN : N = L.length) :
    OLe (some (.arr sz N fun k => mixL (Nat.beq k i) (c t) (lsF c L k))) (some (.arr sz (L.set i t).length (lsF c (L.set i t)))) := by
  refine h.row (by simp [hN]) fun e he => ?_
  simp only [lsF_at, h.mix]
  refine congrArg c ?_
  rw [getD_setI hi]
  by_cases hk : e = i
  · subst hk; simp
  · have : Nat.beq e i = false := by
      cases hb : Nat.beq e i with
      | false => rfl
      | true => exact absurd (Nat.eq_of_beq_eq_true hb) hk
    rw [this, if_neg hk]; rfl
theorem Cod.clr (h : Cod c sz) (L : List α) (z : α) {i n N m : Nat} (hN : N = L.length) (hn : n ≤ L.length) (hi : i ≤ n) (hm : m = n - i) :
    OLe (some (.arr sz N fun k => mixL (decide (i ≤ k) && decide (k < i + m)) (c z) (lsF c L k))) (some (.arr sz (L.take i ++ (List.replicate (n - i) z ++ L.drop n)).length (lsF c (L.take i ++ (List.replicate (n - i) z ++ L.drop n))))) := by
  refine h.row (by simp [hN]; omega) fun e he => ?_
  simp only [lsF_at, h.mix]
  refine congrArg c ?_
  have hti : (L.take i).length = i := by simp; omega
  rw [cond_eq_ite]
  simp only [Bool.and_eq_true, decide_eq_true_eq]
  by_cases h1 : e < i
  · rw [if_neg (by omega), getD_app (by omega), List.getD_eq_getElem?_getD, List.getD_eq_getElem?_getD, List.getElem?_take, if_pos h1]
  · rw [getD_app' (by omega), hti]
    by_cases h2 : e < n
    · rw [if_pos (by omega), getD_app (by simp; omega), List.getD_eq_getElem?_getD, List.getElem?_replicate, if_pos (by omega)]; rfl
    · rw [if_neg (by omega), getD_app' (by simp; omega), List.length_replicate, List.getD_eq_getElem?_getD, List.getD_eq_getElem?_getD, List.getElem?_drop]
      congr 2; omega
def fD (p : α → Bool) : List α → Nat
  | [] => 0
  | t :: l => bif p t then 0 else fD p l + 1
theorem fD_le (p : α → Bool) : ∀ l : List α, fD p l ≤ l.length
  | [] => Nat.le_refl _
  | t :: l => by
    rw [fD]
    have := fD_le p l
    cases p t <;> simp <;> omega
theorem fD_filter (p : α → Bool) : ∀ l : List α, l.take (fD p l) = (l.take (fD p l)).filter (fun t => !p t)
  | [] => rfl
  | t :: l => by
    rw [fD]
    cases h : p t with
    | true => rfl
    | false =>
      simp only [cond_false, List.take_succ_cons, List.filter_cons, h, Bool.not_false, if_true]
      rw [← fD_filter p l]
theorem fD_at (p : α → Bool) : ∀ l : List α, fD p l < l.length → p (l.getD (fD p l) default) = true
  | [], h => absurd h (Nat.not_lt_zero _)
  | t :: l, h => by
    rw [fD] at h ⊢
    cases hp : p t with
    | true => rw [cond_true]; exact hp
    | false =>
      rw [hp, cond_false, List.length_cons] at h
      rw [cond_false]
      exact fD_at p l (by omega)
def dRun (p : α → Bool) : List α → Nat → List α → Nat × List α
  | [], i, L => (i, L)
  | t :: r, i, L => bif p t then dRun p r i L else dRun p r (i + 1) (L.set i t)
theorem dRun_ok (p : α → Bool) : ∀ (r : List α) (i j : Nat) (L : List α), i ≤ j → j + r.length ≤ L.length →
    (dRun p r i L).1 = i + (r.filter fun t => !p t).length ∧ (dRun p r i L).2.length = L.length ∧ (dRun p r i L).2.take (dRun p r i L).1 = L.take i ++ r.filter (fun t => !p t) ∧ (dRun p r i L).2.drop (j + r.length) = L.drop (j + r.length)
  | [], i, j, L, h1, h2 => by simp [dRun]
  | t :: r, i, j, L, h1, h2 => by
    rw [List.length_cons] at h2 ⊢
    rw [dRun]
    cases h : p t with
    | true =>
      rw [cond_true, List.filter_cons_of_neg (by simp [h])]
      obtain ⟨k1, k2, k3, k4⟩ := dRun_ok p r i (j + 1) L (by omega) (by omega)
      refine ⟨k1, k2, k3, ?_⟩
      rw [show j + (r.length + 1) = j + 1 + r.length by omega]; exact k4
    | false =>
      rw [cond_false, List.filter_cons_of_pos (by simp [h])]
      obtain ⟨k1, k2, k3, k4⟩ := dRun_ok p r (i + 1) (j + 1) (L.set i t) (by omega) (by simp; omega)
      refine ⟨by rw [k1, List.length_cons]; omega, by rw [k2, List.length_set], ?_, ?_⟩
      · rw [k3]
        have : (L.set i t).take (i + 1) = L.take i ++ [t] := by
          rw [List.take_add_one, List.take_set_of_le (Nat.le_refl _)]
          simp [show i < L.length by omega]
        rw [this, List.append_assoc]; rfl
      · rw [show j + (r.length + 1) = j + 1 + r.length by omega, k4, List.drop_set_of_lt (by omega)]
end
end Go.Eng

namespace Go.Eng
open Go
theorem mixU (c : Bool) (a b : Int) : mixL c [.v (.int .u8 a)] [.v (.int .u8 b)] = [.v (.int .u8 (bif c then a else b))] := by cases c <;> rfl
section
variable {P : Program} {Γ : Nat → AV}
theorem V.ptr_inv {σ : Store} {φ : Places} {i o : Nat} {y : Value} (h : V σ φ (.ptr i o) y) : ∃ L, φ i = some L ∧ L.virt = false := by
  cases h with
  | base h => cases h
  | ptr h hr => exact ⟨_, h, hr⟩
theorem V.hs_inv {σ : Store} {φ : Places} {i e n : Nat} {y : Value} (h : V σ φ (.hs i e n) y) : ∃ L, φ i = some L := by
  cases h with
  | base h => cases h
  | hs h hr => exact ⟨_, h⟩
  | hsnil A h => exact ⟨_, h⟩
theorem Answers.boxOut {f : FuncId} {args : List AV} {Hin : List Blk} {v : AV} {H1 : List (Option Blk)} {new : List Blk} (a i o j c c0 e0 n0 : Nat) {cs0 cs1 : List AV} {sz N : Nat} {g : Nat → List AV} (ha : args[a]? = some (.ptr i o)) (h0 : Hin[i]? = some (.row cs0)) (hc0 : cs0[c0]? = some (.hs j e0 n0))
    (hj : j < Hin.length) (h1 : H1[i]? = some (some (.row cs1))) (hc1 : cs1[c]? = some (.v (.slice none 0 0))) (hjr : H1[j]? = some (some (.arr sz N g))) (h : Answers P Γ f args Hin v H1 new) :
    Answers P Γ f args Hin v (H1.set i (some (.row (cs1.set c (.hs j N 0))))) new where
  len := by rw [List.length_set]; exact h.len
  enters := h.enters
  ok := by
    intro σ φ w vals hG hV hn hR
    have hlen := h.len
    have e0 : ({ val := v, upd := H1.map some, new := new } : Res).heap Hin = H1 ++ new.map some := by
      unfold Res.heap; rw [outOf_all _ _ hlen]
    have e1 : ({ val := v, upd := (H1.set i (some (.row (cs1.set c (.hs j N 0))))).map some, new := new } : Res).heap Hin = (H1 ++ new.map some).set i (some (.row (cs1.set c (.hs j N 0)))) := by
      unfold Res.heap
      rw [outOf_all _ _ (by rw [List.length_set]; exact hlen)]
      have hil : i < H1.length := (List.getElem?_eq_some_iff.1 h1).1
      rw [List.set_append_left _ _ hil]
    rw [e1]
    refine (h.ok σ φ w vals hG hV hn hR).mono fun e w' ⟨σ', φ', x, k1, k2, k3, k4, k5⟩ => ⟨σ', φ', x, k1, k2, ?_, k4, fun k hk => k5 k (by rw [e0]; rw [List.length_set] at hk; exact hk)⟩
    rw [e0] at k3
    obtain ⟨y, hy, hyv⟩ : ∃ y, vals.toList[a]? = some y ∧ V σ φ (.ptr i o) y := by
      have hal : a < args.length := (List.getElem?_eq_some_iff.1 ha).1
      have hal' : a < vals.toList.length := hV.1 ▸ hal
      exact ⟨_, List.getElem?_eq_getElem hal', hV.2 a _ _ ha (List.getElem?_eq_getElem hal')⟩
    obtain ⟨L, hL, hv⟩ := hyv.ptr_inv
    have hg0 : getH (Hin.map some) i = some (.row cs0) := by rw [getHmap, h0]
    obtain ⟨cc, _, _, _, hcell⟩ := hR.obj i _ L hg0 hL hv
    obtain ⟨yc, _, hyc⟩ := hcell c0 _ hc0
    obtain ⟨Lj, hLj⟩ := hyc.hs_inv
    have hLj' : φ' j = some Lj := by rw [k4 j hj]; exact hLj
    have hgj : getH (H1 ++ new.map some) j = some (.arr sz N g) := by
      unfold getH
      rw [List.getElem?_append_left (List.getElem?_eq_some_iff.1 hjr).1, hjr]
    have hgi : getH (H1 ++ new.map some) i = some (.row cs1) := by
      unfold getH
      rw [List.getElem?_append_left (List.getElem?_eq_some_iff.1 h1).1, h1]
    have hN := k3.len j Lj sz N g hgj hLj'
    refine k3.setRow hgi hc1 fun y hy => ?_
    obtain rfl := hy.v_eq
    exact .hsnil none hLj' (by omega) rfl
theorem Answers.nilSl {f : FuncId} {sz : Nat} {z : List AV} {g : Nat → List AV} (hz : z.length = sz) {M : List AV} (hM : M.length = sz) (h1 : ∀ cap, Answers P Γ f [.v (.slice none 0 cap)] [] (.v (.slice none 0 0)) [] [])
    (h2 : Answers P Γ f [.sl sz 0 fun _ => M] [] (.hs 0 0 0) [] [.arr sz 0 fun _ => z]) : Answers P Γ f [.sl sz 0 g] [] (.hs 0 0 0) [] [.arr sz 0 fun _ => z] where
  len := rfl
  enters := h2.enters
  ok := by
    intro σ φ w vals hG hV hn hR
    obtain ⟨y, hy, hv⟩ := hV.one_inv
    have hsl : ∀ (A : Option Addr) (cap : Nat), A ≠ none → y = .slice A 0 cap → VL σ φ [.sl sz 0 fun _ => M] vals.toList := fun A cap hA e => by
      rw [hy, e]
      exact .one (.base (.slnil sz 0 _ A cap (fun _ => hM) rfl (fun h => absurd h hA))) .none
    have hnil : ∀ cap : Nat, y = .slice none 0 cap → Calls P f vals w fun e w' => ∃ σ' φ' v, e = .returned v ∧ V σ' φ' (.hs 0 0 0) v ∧
      R ⟨w, σ, fun b => ∃ k L, φ k = some L ∧ L.virt = false ∧ L.b = b⟩ σ' φ' (getH (Res.heap [] { val := .hs 0 0 0, upd := [], new := [.arr sz 0 fun _ => z] })) w' ∧ (∀ k, k < 0 → φ' k = φ k) ∧ (∀ k, 1 ≤ k → φ' k = none) := fun cap he => by
      refine ((h1 cap).ok σ φ w vals hG (by rw [hy, he]; exact .one (V_v _) .none) hn hR).mono fun e w' ⟨σ', φ', v, e1, e2, e3, e4, e5⟩ => ?_
      have hnb : φ' 0 = none := e5 0 (Nat.le_refl 0)
      obtain rfl := e2.v_eq
      have hg : getH (Res.heap [] { val := .hs 0 0 0, upd := [], new := [.arr sz 0 fun _ => z] }) = updG (getH (Res.heap [] { val := .v (.slice none 0 0), upd := [] })) 0 (some (.arr sz 0 fun _ => z)) := by
        funext k
        exact getH_append (H := []) (bs := [Blk.arr sz 0 fun _ => z]) (k := k)
      refine ⟨σ', fresh φ' 0 ⟨0, 0, sz, 0, 0, true⟩, _, e1, .hsnil none fresh_at (Nat.le_refl 0) rfl, ?_, fun k hk => absurd hk (Nat.not_lt_zero k), fun k hk => ?_⟩
      · rw [hg]
        exact e3.virtual (L := ⟨0, 0, sz, 0, 0, true⟩) hnb rfl (some (.arr sz 0 fun _ => z)) (fun b' hb' => by simp at hb'; subst hb'; exact fun _ => hz) (fun _ _ _ h' => by cases h'; rfl)
      · have : k ≠ 0 := by omega
        simp only [fresh, this, if_false]
        exact e5 k (Nat.zero_le k)
    cases hv with
    | base h =>
      cases h with
      | sl _ _ _ ad cap ys hs => exact h2.ok σ φ w vals hG (hsl (some ad) cap (by simp) rfl) hn hR
      | slnil _ _ _ A cap hl _ ha =>
        by_cases hA : A = none
        · subst hA; exact hnil cap rfl
        · exact h2.ok σ φ w vals hG (hsl A cap hA rfl) hn hR
theorem Answers.cU {f : FuncId} {a0 : List AV} {H0 : List Blk} {v : AV} {H1 : List (Option Blk)} {new : List Blk} (h : Answers P Γ f a0 H0 v H1 new) {upd : List (Option (Option Blk))} (hu : outOf H0 upd = H1) : Contract P Γ f a0 H0 { val := v, upd := upd, new := new } :=
  h.ok.more (LeL.refl _) (LeH.refl _) (by
    unfold Res.heap
    rw [outOf_all _ _ h.len, hu]) rfl
noncomputable def exSpec {X : Type} (ext : List AV → List Blk → Option X) (pre : X → Prop) (v : X → AV) (upd : X → List (Option (Option Blk))) (new : X → List Blk) (args : List AV) (Hin : List Blk) : Tree Res :=
  match ext args Hin with
  | some x => .chk (cl (pre x)) (.leaf { val := v x, upd := upd x, new := new x })
  | none => .fail
noncomputable def CT.ex {X : Type} (f : FuncId) (ext : List AV → List Blk → Option X) (pre : X → Prop) (v : X → AV) (upd : X → List (Option (Option Blk))) (new : X → List Blk)
    (enters : ∀ (args : Array Value) (w : World), (callFunc f args).run P w = .ok (.enter f args) w) (h : ∀ args Hin x, ext args Hin = some x → pre x → Contract P Γ f args Hin { val := v x, upd := upd x, new := new x }) : CT P Γ where
  f := f
  spec := exSpec ext pre v upd new
  enters := enters
  ok := fun args Hin r hr => by
    unfold exSpec at hr
    split at hr
    · rename_i x hx
      obtain ⟨h1, hr⟩ := Tree.chk_get hr
      obtain rfl := Tree.leaf_get hr
      exact h args Hin x hx (cl_iff.1 h1)
    · simp [Tree.get] at hr
end
end Go.Eng

namespace Go.Eng
open Go Go.Lib
def bN (s : ByteArray) (i : Nat) : Nat := (s.data[i]?.getD 0).toNat
theorem sbyte_bN (s : ByteArray) (i : Nat) : sbyte s i = (bN s i : Int) := rfl
theorem bN_lt (s : ByteArray) (i : Nat) : bN s i < 256 := (s.data[i]?.getD 0).toNat_lt
theorem get_bN (s : ByteArray) (i : Nat) : (s.get! i).toNat = bN s i := by
  unfold bN
  cases s with
  | mk d =>
    show (d[i]!).toNat = _
    rw [getElem!_def]
    cases h : d[i]? <;> rfl
theorem bN_out {s : ByteArray} {i : Nat} (h : s.size ≤ i) : bN s i = 0 := by
  unfold bN
  rw [Array.getElem?_eq_none (by simpa using h)]; rfl
theorem decode_bN (s : ByteArray) (i : Nat) : Utf8.decode s i = decodeN (s.size - i) (bN s i) (bN s (i + 1)) (bN s (i + 2)) (bN s (i + 3)) := by
  rw [decode_at]; simp only [get_bN]
theorem bN_extract (s : ByteArray) (a b i : Nat) (hb : b ≤ s.size) : bN (s.extract a b) i = if a + i < b then bN s (a + i) else 0 := by
  unfold bN
  rw [ByteArray.data_extract]
  rw [Array.getElem?_extract]
  have : min b s.data.size = b := Nat.min_eq_left hb
  rw [this]
  by_cases h : a + i < b
  · rw [if_pos (by omega), if_pos h]
  · rw [if_neg (by omega), if_neg h]; rfl
theorem ext_size (s : ByteArray) (a b : Nat) (hb : b ≤ s.size) : (s.extract a b).size = b - a := by
  rw [ByteArray.size_extract, Nat.min_eq_left hb]
theorem bN_append (a b : ByteArray) (j : Nat) : bN (a ++ b) j = if j < a.size then bN a j else bN b (j - a.size) := by
  have := sbyte_append a b j
  simp only [sbyte_bN] at this
  split at this <;> rename_i h
  · rw [if_pos h]; omega
  · rw [if_neg h]; omega
theorem bN_eq {a b : ByteArray} (hs : a.size = b.size) (h : ∀ j, j < a.size → bN a j = bN b j) : a = b :=
  bs_eq hs fun j hj => by rw [sbyte_bN, sbyte_bN, h j hj]
set_option maxRecDepth 100000 in
set_option maxHeartbeats 2000000 in
theorem shapeN (n b0 b1 b2 b3 : Nat) :
    (b0 < 128 ∧ decodeN n b0 b1 b2 b3 = (b0, 1)) ∨
    (b0 / 32 = 6 ∧ 1 < n ∧ b1 / 64 = 2 ∧ 128 ≤ b0 % 32 * 64 + b1 % 64 ∧ decodeN n b0 b1 b2 b3 = (b0 % 32 * 64 + b1 % 64, 2)) ∨
    (b0 / 16 = 14 ∧ 2 < n ∧ b1 / 64 = 2 ∧ b2 / 64 = 2 ∧ 2048 ≤ b0 % 16 * 4096 + b1 % 64 * 64 + b2 % 64 ∧ (b0 % 16 * 4096 + b1 % 64 * 64 + b2 % 64 < 55296 ∨ 57344 ≤ b0 % 16 * 4096 + b1 % 64 * 64 + b2 % 64) ∧
      decodeN n b0 b1 b2 b3 = (b0 % 16 * 4096 + b1 % 64 * 64 + b2 % 64, 3)) ∨
    (b0 / 8 = 30 ∧ 3 < n ∧ b1 / 64 = 2 ∧ b2 / 64 = 2 ∧ b3 / 64 = 2 ∧ 65536 ≤ b0 % 8 * 262144 + b1 % 64 * 4096 + b2 % 64 * 64 + b3 % 64 ∧ b0 % 8 * 262144 + b1 % 64 * 4096 + b2 % 64 * 64 + b3 % 64 ≤ 1114111 ∧
      decodeN n b0 b1 b2 b3 = (b0 % 8 * 262144 + b1 % 64 * 4096 + b2 % 64 * 64 + b3 % 64, 4)) ∨
    (decodeN n b0 b1 b2 b3 = (65533, 1) ∧ 128 ≤ b0 ∧
      ¬ (b0 / 32 = 6 ∧ 1 < n ∧ b1 / 64 = 2 ∧ 128 ≤ b0 % 32 * 64 + b1 % 64) ∧
      ¬ (b0 / 16 = 14 ∧ 2 < n ∧ b1 / 64 = 2 ∧ b2 / 64 = 2 ∧ 2048 ≤ b0 % 16 * 4096 + b1 % 64 * 64 + b2 % 64 ∧ (b0 % 16 * 4096 + b1 % 64 * 64 + b2 % 64 < 55296 ∨ 57344 ≤ b0 % 16 * 4096 + b1 % 64 * 64 + b2 % 64)) ∧
      ¬ (b0 / 8 = 30 ∧ 3 < n ∧ b1 / 64 = 2 ∧ b2 / 64 = 2 ∧ b3 / 64 = 2 ∧ 65536 ≤ b0 % 8 * 262144 + b1 % 64 * 4096 + b2 % 64 * 64 + b3 % 64 ∧ b0 % 8 * 262144 + b1 % 64 * 4096 + b2 % 64 * 64 + b3 % 64 ≤ 1114111)) := by
  unfold decodeN
  repeat' split
  all_goals first
    | exact .inl ⟨by omega, rfl⟩
    | exact .inr (.inl ⟨by omega, by omega, by omega, by omega, rfl⟩)
    | exact .inr (.inr (.inl ⟨by omega, by omega, by omega, by omega, by omega, by omega, rfl⟩))
    | exact .inr (.inr (.inr (.inl ⟨by omega, by omega, by omega, by omega, by omega, by omega, by omega, rfl⟩)))
    | exact .inr (.inr (.inr (.inr ⟨rfl, by omega, by omega, by omega, by omega⟩)))
theorem dec_pos (s : ByteArray) (p : Nat) : 1 ≤ (Utf8.decode s p).2 := by
  rw [decode_bN]
  rcases shapeN (s.size - p) (bN s p) (bN s (p + 1)) (bN s (p + 2)) (bN s (p + 3)) with ⟨_, h⟩ | ⟨_, _, _, _, h⟩ | ⟨_, _, _, _, _, _, h⟩ | ⟨_, _, _, _, _, _, _, h⟩ | ⟨h, _⟩ <;> rw [h] <;> simp
theorem dec_le {s : ByteArray} {p : Nat} (hp : p < s.size) : p + (Utf8.decode s p).2 ≤ s.size := by
  rw [decode_bN]
  rcases shapeN (s.size - p) (bN s p) (bN s (p + 1)) (bN s (p + 2)) (bN s (p + 3)) with ⟨_, h⟩ | ⟨_, _, _, _, h⟩ | ⟨_, _, _, _, _, _, h⟩ | ⟨_, _, _, _, _, _, _, h⟩ | ⟨h, _⟩ <;> rw [h] <;> simp only <;> omega
theorem dec_four (s : ByteArray) (p : Nat) : (Utf8.decode s p).2 ≤ 4 := by
  rw [decode_bN]
  rcases shapeN (s.size - p) (bN s p) (bN s (p + 1)) (bN s (p + 2)) (bN s (p + 3)) with ⟨_, h⟩ | ⟨_, _, _, _, h⟩ | ⟨_, _, _, _, _, _, h⟩ | ⟨_, _, _, _, _, _, _, h⟩ | ⟨h, _⟩ <;> rw [h] <;> simp only <;> omega
def okR (c : Nat) : Prop := c < 55296 ∨ (57344 ≤ c ∧ c ≤ 1114111)
theorem dec_ok (s : ByteArray) (p : Nat) : okR (Utf8.decode s p).1 := by
  rw [decode_bN]
  have := bN_lt s p
  unfold okR
  rcases shapeN (s.size - p) (bN s p) (bN s (p + 1)) (bN s (p + 2)) (bN s (p + 3)) with ⟨_, h⟩ | ⟨_, _, _, _, h⟩ | ⟨_, _, _, _, _, _, h⟩ | ⟨_, _, _, _, _, _, _, h⟩ | ⟨h, _⟩ <;> rw [h] <;> simp only <;> omega
theorem dec_ext {s : ByteArray} {p : Nat} (hp : p ≤ s.size) : Utf8.decode (s.extract p s.size) 0 = Utf8.decode s p := by
  rw [decode_bN, decode_bN, ext_size _ _ _ (Nat.le_refl _)]
  have h : ∀ i, bN (s.extract p s.size) i = bN s (p + i) := fun i => by
    rw [bN_extract _ _ _ _ (Nat.le_refl _)]
    split
    · rfl
    · rw [bN_out (by omega)]
  simp only [h, Nat.sub_zero, Nat.add_zero, Nat.zero_add]
theorem dec_extQ {s : ByteArray} {p q : Nat} (hp : p ≤ s.size) : Utf8.decode (s.extract p s.size) q = Utf8.decode s (p + q) := by
  rw [decode_bN, decode_bN, ext_size _ _ _ (Nat.le_refl _)]
  have h : ∀ i, bN (s.extract p s.size) i = bN s (p + i) := fun i => by
    rw [bN_extract _ _ _ _ (Nat.le_refl _)]
    split
    · rfl
    · rw [bN_out (by omega)]
  simp only [h, Nat.sub_sub, Nat.add_assoc]
set_option maxRecDepth 100000 in
set_option maxHeartbeats 2000000 in
theorem dec_cut {s : ByteArray} {p i : Nat} (hi : i ≤ s.size) (h : p + (Utf8.decode s p).2 ≤ i) : Utf8.decode (s.extract 0 i) p = Utf8.decode s p := by
  have hb : ∀ k, bN (s.extract 0 i) k = if k < i then bN s k else 0 := fun k => by
    rw [bN_extract _ _ _ _ hi, Nat.zero_add]
  rw [decode_bN] at h
  rw [decode_bN, decode_bN, ext_size _ _ _ hi]
  simp only [hb, Nat.sub_zero]
  rcases shapeN (s.size - p) (bN s p) (bN s (p + 1)) (bN s (p + 2)) (bN s (p + 3)) with ⟨h1, h0⟩ | ⟨h1, h2, h3, h4, h0⟩ | ⟨h1, h2, h3, h4, h5, h6, h0⟩ | ⟨h1, h2, h3, h4, h5, h6, h7, h0⟩ | ⟨h0, h1, h2, h3, h4⟩ <;> rw [h0] at h ⊢ <;> simp only at h
  · rw [if_pos (by omega)]
    unfold decodeN
    rw [if_pos (by omega)]
  · rw [if_pos (by omega), if_pos (by omega)]
    rcases shapeN (i - p) (bN s p) (bN s (p + 1)) (if p + 2 < i then bN s (p + 2) else 0) (if p + 3 < i then bN s (p + 3) else 0) with ⟨k1, k0⟩ | ⟨k1, k2, k3, k4, k0⟩ | ⟨k1, _⟩ | ⟨k1, _⟩ | ⟨k0, k1, k2, k3, k4⟩
    · omega
    · exact k0
    · omega
    · omega
    · omega
  · rw [if_pos (by omega), if_pos (by omega), if_pos (by omega)]
    rcases shapeN (i - p) (bN s p) (bN s (p + 1)) (bN s (p + 2)) (if p + 3 < i then bN s (p + 3) else 0) with ⟨k1, k0⟩ | ⟨k1, k2, k3, k4, k0⟩ | ⟨k1, k2, k3, k4, k5, k6, k0⟩ | ⟨k1, _⟩ | ⟨k0, k1, k2, k3, k4⟩
    · omega
    · omega
    · exact k0
    · omega
    · omega
  · rw [if_pos (by omega), if_pos (by omega), if_pos (by omega), if_pos (by omega)]
    rcases shapeN (i - p) (bN s p) (bN s (p + 1)) (bN s (p + 2)) (bN s (p + 3)) with ⟨k1, k0⟩ | ⟨k1, k2, k3, k4, k0⟩ | ⟨k1, k2, k3, k4, k5, k6, k0⟩ | ⟨k1, k2, k3, k4, k5, k6, k7, k0⟩ | ⟨k0, k1, k2, k3, k4⟩
    · omega
    · omega
    · omega
    · exact k0
    · omega
  · rw [if_pos (by omega)]
    rcases shapeN (i - p) (bN s p) (if p + 1 < i then bN s (p + 1) else 0) (if p + 2 < i then bN s (p + 2) else 0) (if p + 3 < i then bN s (p + 3) else 0) with ⟨k1, k0⟩ | ⟨k1, k2, k3, k4, k0⟩ | ⟨k1, k2, k3, k4, k5, k6, k0⟩ | ⟨k1, k2, k3, k4, k5, k6, k7, k0⟩ | ⟨k0, k1, k2, k3, k4⟩
    · omega
    · rw [if_pos (by omega)] at k3 k4; omega
    · rw [if_pos (by omega)] at k3 k5 k6; rw [if_pos (by omega)] at k4 k5 k6; omega
    · rw [if_pos (by omega)] at k3 k6 k7; rw [if_pos (by omega)] at k4 k6 k7; rw [if_pos (by omega)] at k5 k6 k7; omega
    · exact k0
end Go.Eng

namespace Go.Eng
open Go Go.Lib
def encR (c : Nat) : ByteArray := Utf8.encode (c : Int)
def b8 (n : Nat) : UInt8 := UInt8.ofNat n
theorem b8_nat {n : Nat} (h : n < 256) : (b8 n).toNat = n := by
  show (UInt8.ofNat n).toNat = n
  simp
  omega
theorem encR_eq {c : Nat} (h : okR c) : encR c = if c < 128 then ⟨#[b8 c]⟩ else if c < 2048 then ⟨#[b8 (192 + c / 64), b8 (128 + c % 64)]⟩ else if c < 65536 then ⟨#[b8 (224 + c / 4096), b8 (128 + c / 64 % 64), b8 (128 + c % 64)]⟩
    else ⟨#[b8 (240 + c / 262144), b8 (128 + c / 4096 % 64), b8 (128 + c / 64 % 64), b8 (128 + c % 64)]⟩ := by
  unfold encR Utf8.encode
  have hv : Utf8.valid (c : Int) = true := by
    unfold okR at h
    simp only [Utf8.valid, Bool.or_eq_true, Bool.and_eq_true, decide_eq_true_eq]
    omega
  rw [hv]
  rfl
theorem bN_cons0 (a : UInt8) (l : List UInt8) : bN ⟨⟨a :: l⟩⟩ 0 = a.toNat := rfl
theorem bN_consS (a : UInt8) (l : List UInt8) (i : Nat) : bN ⟨⟨a :: l⟩⟩ (i + 1) = bN ⟨⟨l⟩⟩ i := by
  unfold bN; simp
theorem bN_nil (i : Nat) : bN ⟨⟨[]⟩⟩ i = 0 := by unfold bN; simp
theorem size_mk (l : List UInt8) : ByteArray.size ⟨⟨l⟩⟩ = l.length := rfl
set_option maxRecDepth 100000 in
set_option maxHeartbeats 4000000 in
theorem dec_enc {s : ByteArray} {p : Nat} (hp : p < s.size) (he : ¬ (Utf8.decode s p = (65533, 1))) : encR (Utf8.decode s p).1 = s.extract p (p + (Utf8.decode s p).2) := by
  have hl := dec_le hp
  rw [encR_eq (dec_ok s p)]
  have k0 := bN_lt s p
  have k1 := bN_lt s (p + 1)
  have k2 := bN_lt s (p + 2)
  have k3 := bN_lt s (p + 3)
  have hx : ∀ j, j < (Utf8.decode s p).2 → bN (s.extract p (p + (Utf8.decode s p).2)) j = bN s (p + j) := fun j hj => by
    rw [bN_extract _ _ _ _ hl, if_pos (by omega)]
  have hz : (s.extract p (p + (Utf8.decode s p).2)).size = (Utf8.decode s p).2 := by rw [ext_size _ _ _ hl]; omega
  refine bN_eq ?_ ?_
  · rw [hz, decode_bN]
    rw [decode_bN] at he hl
    rcases shapeN (s.size - p) (bN s p) (bN s (p + 1)) (bN s (p + 2)) (bN s (p + 3)) with ⟨_, h⟩ | ⟨_, _, _, _, h⟩ | ⟨_, _, _, _, _, _, h⟩ | ⟨_, _, _, _, _, _, _, h⟩ | ⟨h, _⟩ <;> rw [h] at he ⊢ <;> simp only
    · rw [if_pos (by omega)]; rfl
    · rw [if_neg (by omega), if_pos (by omega)]; rfl
    · rw [if_neg (by omega), if_neg (by omega), if_pos (by omega)]; rfl
    · rw [if_neg (by omega), if_neg (by omega), if_neg (by omega)]; rfl
    · exact absurd rfl he
  · rw [decode_bN]
    rw [decode_bN] at he hl hx
    intro j hj
    rcases shapeN (s.size - p) (bN s p) (bN s (p + 1)) (bN s (p + 2)) (bN s (p + 3)) with ⟨_, h⟩ | ⟨_, _, _, _, h⟩ | ⟨_, _, _, _, _, _, h⟩ | ⟨_, _, _, _, _, _, _, h⟩ | ⟨h, _⟩ <;> rw [h] at he hx hj ⊢ <;> simp only at hj hx ⊢
    · rw [if_pos (by omega)] at hj ⊢
      have hj : j < 1 := hj
      obtain rfl : j = 0 := by omega
      rw [hx 0 (by omega), bN_cons0, b8_nat (by omega)]; rfl
    · rw [if_neg (by omega), if_pos (by omega)] at hj ⊢
      have hj : j < 2 := hj
      rw [hx j (by omega)]
      match j, hj with
      | 0, _ =>
        rw [bN_cons0, b8_nat (by omega)]
        show _ = bN s p
        omega
      | 1, _ => rw [bN_consS, bN_cons0, b8_nat (by omega)]; omega
    · rw [if_neg (by omega), if_neg (by omega), if_pos (by omega)] at hj ⊢
      have hj : j < 3 := hj
      rw [hx j (by omega)]
      match j, hj with
      | 0, _ =>
        rw [bN_cons0, b8_nat (by omega)]
        show _ = bN s p
        omega
      | 1, _ => rw [bN_consS, bN_cons0, b8_nat (by omega)]; omega
      | 2, _ => rw [bN_consS, bN_consS, bN_cons0, b8_nat (by omega)]; omega
    · rw [if_neg (by omega), if_neg (by omega), if_neg (by omega)] at hj ⊢
      have hj : j < 4 := hj
      rw [hx j (by omega)]
      match j, hj with
      | 0, _ =>
        rw [bN_cons0, b8_nat (by omega)]
        show _ = bN s p
        omega
      | 1, _ => rw [bN_consS, bN_cons0, b8_nat (by omega)]; omega
      | 2, _ => rw [bN_consS, bN_consS, bN_cons0, b8_nat (by omega)]; omega
      | 3, _ => rw [bN_consS, bN_consS, bN_consS, bN_cons0, b8_nat (by omega)]; omega
    · exact absurd rfl he
theorem dec_at_enc {s e : ByteArray} {p : Nat} (hz : p + e.size ≤ s.size) (h : ∀ j, j < e.size → bN s (p + j) = bN e j) {c : Nat} (hc : okR c) (he : e = encR c) : Utf8.decode s p = (c, e.size) := by
  rw [encR_eq hc] at he
  rw [decode_bN]
  unfold okR at hc
  by_cases h1 : c < 128
  · rw [if_pos h1] at he
    subst he
    have hz : p + 1 ≤ s.size := hz
    have e0 := h 0 (by simp [size_mk])
    rw [bN_cons0, b8_nat (by omega), Nat.add_zero] at e0
    unfold decodeN
    rw [if_pos (by omega), e0]; rfl
  rw [if_neg h1] at he
  by_cases h2 : c < 2048
  · rw [if_pos h2] at he
    subst he
    have hz : p + 2 ≤ s.size := hz
    have e0 := h 0 (by simp [size_mk])
    have e1 := h 1 (by simp [size_mk])
    rw [bN_cons0, b8_nat (by omega), Nat.add_zero] at e0
    rw [bN_consS, bN_cons0, b8_nat (by omega)] at e1
    show decodeN _ _ _ _ _ = (c, 2)
    rcases shapeN (s.size - p) (bN s p) (bN s (p + 1)) (bN s (p + 2)) (bN s (p + 3)) with ⟨_, k⟩ | ⟨_, _, _, _, k⟩ | ⟨_, _, _, _, _, _, k⟩ | ⟨_, _, _, _, _, _, _, k⟩ | ⟨k, _⟩
    · omega
    · rw [k]; exact Prod.ext (by show _ = c; omega) rfl
    · omega
    · omega
    · omega
  rw [if_neg h2] at he
  by_cases h3 : c < 65536
  · rw [if_pos h3] at he
    subst he
    have hz : p + 3 ≤ s.size := hz
    have e0 := h 0 (by simp [size_mk])
    have e1 := h 1 (by simp [size_mk])
    have e2 := h 2 (by simp [size_mk])
    rw [bN_cons0, b8_nat (by omega), Nat.add_zero] at e0
    rw [bN_consS, bN_cons0, b8_nat (by omega)] at e1
    rw [bN_consS, bN_consS, bN_cons0, b8_nat (by omega)] at e2
    show decodeN _ _ _ _ _ = (c, 3)
    rcases shapeN (s.size - p) (bN s p) (bN s (p + 1)) (bN s (p + 2)) (bN s (p + 3)) with ⟨_, k⟩ | ⟨_, _, _, _, k⟩ | ⟨_, _, _, _, _, _, k⟩ | ⟨_, _, _, _, _, _, _, k⟩ | ⟨k, _⟩
    · omega
    · omega
    · rw [k]; exact Prod.ext (by show _ = c; omega) rfl
    · omega
    · omega
  rw [if_neg h3] at he
  subst he
  have hz : p + 4 ≤ s.size := hz
  have e0 := h 0 (by simp [size_mk])
  have e1 := h 1 (by simp [size_mk])
  have e2 := h 2 (by simp [size_mk])
  have e3 := h 3 (by simp [size_mk])
  rw [bN_cons0, b8_nat (by omega), Nat.add_zero] at e0
  rw [bN_consS, bN_cons0, b8_nat (by omega)] at e1
  rw [bN_consS, bN_consS, bN_cons0, b8_nat (by omega)] at e2
  rw [bN_consS, bN_consS, bN_consS, bN_cons0, b8_nat (by omega)] at e3
  show decodeN _ _ _ _ _ = (c, 4)
  rcases shapeN (s.size - p) (bN s p) (bN s (p + 1)) (bN s (p + 2)) (bN s (p + 3)) with ⟨_, k⟩ | ⟨_, _, _, _, k⟩ | ⟨_, _, _, _, _, _, k⟩ | ⟨_, _, _, _, _, _, _, k⟩ | ⟨k, _⟩
  · omega
  · omega
  · omega
  · rw [k]; exact Prod.ext (by show _ = c; omega) rfl
  · omega
theorem encR_size {c : Nat} (h : okR c) : 1 ≤ (encR c).size ∧ (encR c).size ≤ 4 := by
  rw [encR_eq h]
  repeat' split
  all_goals exact ⟨by simp [size_mk], by simp [size_mk]⟩
def rF (s : ByteArray) : Nat → Nat → List Nat
  | 0, _ => []
  | k + 1, p => if p < s.size then (Utf8.decode s p).1 :: rF s k (p + (Utf8.decode s p).2) else []
def rns (s : ByteArray) (p : Nat) : List Nat := rF s (s.size - p) p
theorem rF_more (s : ByteArray) : ∀ (k k' p : Nat), s.size - p ≤ k → s.size - p ≤ k' → rF s k p = rF s k' p := by
  intro k
  induction k with
  | zero =>
    intro k' p h _
    cases k' with
    | zero => rfl
    | succ k' => rw [rF, rF, if_neg (by omega)]
  | succ k ih =>
    intro k' p h h'
    cases k' with
    | zero => rw [rF, rF, if_neg (by omega)]
    | succ k' =>
      rw [rF, rF]
      split
      · have := dec_pos s p
        rw [ih k' _ (by omega) (by omega)]
      · rfl
theorem rns_step {s : ByteArray} {p : Nat} (h : p < s.size) : rns s p = (Utf8.decode s p).1 :: rns s (p + (Utf8.decode s p).2) := by
  have := dec_pos s p
  unfold rns
  obtain ⟨k, hk⟩ : ∃ k, s.size - p = k + 1 := ⟨s.size - p - 1, by omega⟩
  rw [hk, rF, if_pos h, rF_more s k (s.size - (p + (Utf8.decode s p).2)) _ (by omega) (Nat.le_refl _)]
theorem rns_end {s : ByteArray} {p : Nat} (h : s.size ≤ p) : rns s p = [] := by
  unfold rns
  rw [show s.size - p = 0 by omega]; rfl
theorem rns_len {s : ByteArray} {p : Nat} : (rns s p).length ≤ s.size - p := by
  have : ∀ n p, s.size - p ≤ n → (rns s p).length ≤ s.size - p := by
    intro n
    induction n with
    | zero => intro p h; rw [rns_end (by omega)]; simp
    | succ n ih =>
      intro p h
      by_cases hp : p < s.size
      · rw [rns_step hp]
        have := dec_pos s p
        have := dec_le hp
        have := ih (p + (Utf8.decode s p).2) (by omega)
        simp only [List.length_cons]; omega
      · rw [rns_end (by omega)]; simp
  exact this _ p (Nat.le_refl _)
def badAt (s : ByteArray) (p : Nat) : Prop := Utf8.decode s p = (65533, 1)
instance (s : ByteArray) (p : Nat) : Decidable (badAt s p) := by unfold badAt; infer_instance
def gF (s : ByteArray) : Nat → Nat → Bool
  | 0, _ => true
  | k + 1, p => if p < s.size then !decide (badAt s p) && gF s k (p + (Utf8.decode s p).2) else true
def good (s : ByteArray) (p : Nat) : Bool := gF s (s.size - p) p
theorem gF_more (s : ByteArray) : ∀ (k k' p : Nat), s.size - p ≤ k → s.size - p ≤ k' → gF s k p = gF s k' p := by
  intro k
  induction k with
  | zero =>
    intro k' p h _
    cases k' with
    | zero => rfl
    | succ k' => rw [gF, gF, if_neg (by omega)]
  | succ k ih =>
    intro k' p h h'
    cases k' with
    | zero => rw [gF, gF, if_neg (by omega)]
    | succ k' =>
      rw [gF, gF]
      split
      · have := dec_pos s p
        rw [ih k' _ (by omega) (by omega)]
      · rfl
theorem good_step {s : ByteArray} {p : Nat} (h : p < s.size) : good s p = (!decide (badAt s p) && good s (p + (Utf8.decode s p).2)) := by
  have := dec_pos s p
  unfold good
  obtain ⟨k, hk⟩ : ∃ k, s.size - p = k + 1 := ⟨s.size - p - 1, by omega⟩
  rw [hk, gF, if_pos h, gF_more s k (s.size - (p + (Utf8.decode s p).2)) _ (by omega) (Nat.le_refl _)]
theorem good_end {s : ByteArray} {p : Nat} (h : s.size ≤ p) : good s p = true := by
  unfold good
  rw [show s.size - p = 0 by omega]; rfl
theorem rns_ok {s : ByteArray} {p : Nat} : ∀ c ∈ rns s p, okR c := by
  have : ∀ n p, s.size - p ≤ n → ∀ c ∈ rns s p, okR c := by
    intro n
    induction n with
    | zero => intro p h c hc; rw [rns_end (by omega)] at hc; simp at hc
    | succ n ih =>
      intro p h c hc
      by_cases hp : p < s.size
      · rw [rns_step hp] at hc
        have := dec_pos s p
        rcases List.mem_cons.1 hc with rfl | hc
        · exact dec_ok s p
        · exact ih _ (by omega) c hc
      · rw [rns_end (by omega)] at hc; simp at hc
  exact this _ p (Nat.le_refl _)
end Go.Eng
namespace Go.Eng
open Go
theorem ext_ext {s : ByteArray} {p w n : Nat} (h : p + w ≤ s.size) (hn : n = (s.extract p s.size).size) : (s.extract p s.size).extract w n = s.extract (p + w) s.size := by
  subst hn
  have h1 : (s.extract p s.size).size = s.size - p := ext_size _ _ _ (Nat.le_refl _)
  refine bN_eq ?_ fun j hj => ?_
  · rw [ext_size _ _ _ (Nat.le_refl _), h1, ext_size _ _ _ (Nat.le_refl _)]; omega
  · rw [bN_extract _ _ _ _ (Nat.le_refl _), bN_extract _ _ _ _ (Nat.le_refl _), bN_extract _ _ _ _ (Nat.le_refl _), h1]
    by_cases h2 : p + w + j < s.size
    · rw [if_pos (by omega), if_pos (by omega), if_pos h2, Nat.add_assoc]
    · rw [if_neg (by omega), if_neg h2]
theorem ext_all (s : ByteArray) : s.extract 0 s.size = s := by
  refine bN_eq ?_ fun j hj => ?_
  · rw [ext_size _ _ _ (Nat.le_refl _)]; rfl
  · rw [ext_size _ _ _ (Nat.le_refl _)] at hj
    rw [bN_extract _ _ _ _ (Nat.le_refl _), Nat.zero_add, if_pos (by omega)]
theorem ext_none (s : ByteArray) : s.extract s.size s.size = ⟨#[]⟩ := by
  refine bN_eq ?_ fun j hj => ?_
  · rw [ext_size _ _ _ (Nat.le_refl _)]; simp; rfl
  · rw [ext_size _ _ _ (Nat.le_refl _)] at hj; omega
def adv (s : ByteArray) : Nat → Nat → Nat
  | 0, p => p
  | k + 1, p => if p < s.size then adv s k (p + (Utf8.decode s p).2) else p
theorem adv_le {s : ByteArray} : ∀ {k p : Nat}, p ≤ s.size → adv s k p ≤ s.size
  | 0, p, h => h
  | k + 1, p, h => by
    rw [adv]
    split
    · rename_i h'; exact adv_le (dec_le h')
    · exact h
theorem adv_end {s : ByteArray} {k p : Nat} (h : s.size ≤ p) : adv s k p = p := by
  cases k with
  | zero => rfl
  | succ k => rw [adv, if_neg (by omega)]
theorem adv_step {s : ByteArray} {k p : Nat} (h : p < s.size) (hk : 0 < k) : adv s k p = adv s (k - 1) (p + (Utf8.decode s p).2) := by
  obtain ⟨k, rfl⟩ : ∃ j, k = j + 1 := ⟨k - 1, by omega⟩
  rw [adv, if_pos h]; rfl
def okAt (s : ByteArray) (p : Nat) : Bool := !decide (badAt s p)
theorem okAt_t {s : ByteArray} {p : Nat} {d : Nat × Nat} (h : Utf8.decode s p = d) (hn : ¬ d = (65533, 1)) : okAt s p = true := by
  unfold okAt
  have : ¬ badAt s p := fun e => hn (h.symm.trans e)
  rw [decide_eq_false this]; rfl
theorem okAt_f {s : ByteArray} {p : Nat} (h : Utf8.decode s p = (65533, 1)) : okAt s p = false := by
  unfold okAt
  have : badAt s p := h
  rw [decide_eq_true this]; rfl
theorem okAt_ext {s : ByteArray} {p : Nat} (hp : p ≤ s.size) : okAt (s.extract p s.size) 0 = okAt s p := by
  unfold okAt badAt
  exact congrArg Bool.not (decide_eq_decide.2 (by rw [dec_ext hp]))
theorem good_ok {s : ByteArray} {p : Nat} (h : p < s.size) : good s p = (okAt s p && good s (p + (Utf8.decode s p).2)) := good_step h
end Go.Eng

namespace Go.Eng.M
open Go Go.Eng
theorem wrap64 {x : Int} (h : -9223372036854775808 ≤ x) (h' : x ≤ 9223372036854775807) : IntKind.i64.wrap x = x := by
  simp only [IntKind.wrap, IntKind.signed, IntKind.bits]; simp; omega
end Go.Eng.M

namespace Go.Eng.SB
open Go Go.Eng Go.Proofs
noncomputable def Γb (g : Nat) : AV := .any
noncomputable def bodyOf (fn : Func) : Code := match fn.body with | some c => c | none => .skip
noncomputable def Lno : Nat → LSpec := fun _ => ⟨[], [], fun _ _ => .fail⟩
noncomputable def loopOf (c : Code) (j : Nat) : Code := match (loopBodies c)[j]? with | some b => b | none => .skip
theorem wrapUpN {i : Nat} (h : i ≤ 10000000000) : IntKind.wrap IntKind.i64 ((i : Int) + 1) = ((i + 1 : Nat) : Int) := by rw [wrap64E]; omega
end Go.Eng.SB

namespace Go.Eng
open Go
theorem and127 (a : Int) (h : 0 ≤ a) (h' : a < 256) : bitI .and .u8 a 127 = a % 128 := by
  obtain ⟨n, rfl⟩ := Int.eq_ofNat_of_zero_le h
  have : ∀ k : Fin 256, bitI .and .u8 ((k.val : Nat) : Int) 127 = ((k.val : Nat) : Int) % 128 := by decide +kernel
  exact this ⟨n, by omega⟩
theorem pow128 (i : Nat) : (128 : Nat) ^ i = 2 ^ (7 * i) := by rw [show (128 : Nat) = 2 ^ 7 from rfl, ← Nat.pow_mul]
theorem pow128_le {i : Nat} (h : i ≤ 8) : (128 : Nat) ^ i ≤ 72057594037927936 := by
  have : (128 : Nat) ^ i ≤ 128 ^ 8 := Nat.pow_le_pow_right (by decide) h
  exact Nat.le_trans this (by decide)
theorem or_u64 (a b : Nat) (ha : a < 2 ^ 64) (hb : b < 2 ^ 64) : bitI .or .u64 (a : Int) (b : Int) = ((a ||| b : Nat) : Int) := by
  show IntKind.u64.wrap (((BitVec.ofInt 64 (a : Int) ||| BitVec.ofInt 64 (b : Int)).toNat : Nat) : Int) = _
  have e1 : ∀ x : Nat, x < 2 ^ 64 → (BitVec.ofInt 64 (x : Int)).toNat = x := fun x hx => by rw [BitVec.toNat_ofInt]; omega
  rw [BitVec.toNat_or, e1 a ha, e1 b hb, wrapU64]
  have := Nat.or_lt_two_pow ha hb
  omega
theorem dig {n i : Nat} {c : Int} (hn : n < 128 ^ i) (hi : i ≤ 8) (h : 0 ≤ c) (h' : c < 256) :
    bitI .or .u64 (n : Int) (IntKind.u64.wrap (IntKind.u64.wrap (bitI .and .u8 c 127) * (2 : Int) ^ min (IntKind.i64.wrap ((7 : Int) * (i : Int))).toNat 64)) = ((n + c.toNat % 128 * 128 ^ i : Nat) : Int) := by
  obtain ⟨k, rfl⟩ := Int.eq_ofNat_of_zero_le h
  have e1 : IntKind.i64.wrap ((7 : Int) * (i : Int)) = ((7 * i : Nat) : Int) := by rw [wrap64E]; omega
  have e2 : IntKind.u64.wrap (bitI .and .u8 (k : Int) 127) = ((k % 128 : Nat) : Int) := by rw [and127 _ h h', wrapU64]; omega
  have e3 : min (7 * i) 64 = 7 * i := Nat.min_eq_left (by omega)
  have hp := pow128_le hi
  have hk : k % 128 < 128 := Nat.mod_lt _ (by decide)
  have hm : k % 128 * 128 ^ i ≤ 127 * 72057594037927936 := Nat.mul_le_mul (by omega) hp
  rw [e1, e2, Int.toNat_natCast, e3]
  have e4 : ((k % 128 : Nat) : Int) * (2 : Int) ^ (7 * i) = ((k % 128 * 128 ^ i : Nat) : Int) := by
    rw [pow128]; simp
  rw [e4]
  have e5 : IntKind.u64.wrap ((k % 128 * 128 ^ i : Nat) : Int) = ((k % 128 * 128 ^ i : Nat) : Int) := by rw [wrapU64]; omega
  rw [e5, or_u64 _ _ (by omega) (by omega), Int.toNat_natCast]
  congr 1
  rw [Nat.or_comm, Nat.mul_comm, pow128]
  rw [pow128] at hn
  rw [← Nat.two_pow_add_eq_or_of_lt hn]
  omega
def byt (t : ByteArray) (j : Nat) : Nat := (sbyte t j).toNat
theorem byt_lt (t : ByteArray) (j : Nat) : byt t j < 256 := by
  have := sbyte_range t j
  unfold byt; omega
theorem sbyte_byt (t : ByteArray) (j : Nat) : sbyte t j = (byt t j : Int) := by
  have := sbyte_range t j
  unfold byt; omega
def vAt (t : ByteArray) (off : Nat) : Nat → Nat
  | 0 => 0
  | i + 1 => vAt t off i + byt t (off + i) % 128 * 128 ^ i
theorem vAt_lt (t : ByteArray) (off : Nat) : ∀ i, vAt t off i < 128 ^ i
  | 0 => by simp [vAt]
  | i + 1 => by
    have h := vAt_lt t off i
    have hk : byt t (off + i) % 128 ≤ 127 := by omega
    have : byt t (off + i) % 128 * 128 ^ i ≤ 127 * 128 ^ i := Nat.mul_le_mul_right _ hk
    simp only [vAt, Nat.pow_succ]
    omega
theorem vAt_front (t : ByteArray) (off : Nat) : ∀ i, vAt t off (i + 1) = byt t off % 128 + 128 * vAt t (off + 1) i
  | 0 => by simp [vAt]
  | i + 1 => by
    rw [vAt, vAt_front t off i, vAt, show off + (i + 1) = off + 1 + i by omega, Nat.pow_succ, Nat.mul_add]
    have : byt t (off + 1 + i) % 128 * (128 ^ i * 128) = 128 * (byt t (off + 1 + i) % 128 * 128 ^ i) := by
      rw [Nat.mul_comm (128 ^ i) 128, ← Nat.mul_assoc, Nat.mul_comm _ 128, Nat.mul_assoc]
    omega
structure GoodAt (t : ByteArray) (off i : Nat) : Prop where
  hi : ∀ j, j < i → 128 ≤ byt t (off + j)
  lo : byt t (off + i) < 128
  nz : 0 < i → byt t (off + i) ≠ 0
theorem GoodAt.tail {t : ByteArray} {off i : Nat} (h : GoodAt t off (i + 1)) : GoodAt t (off + 1) i where
  hi := fun j hj => by have := h.hi (j + 1) (by omega); rwa [show off + (j + 1) = off + 1 + j by omega] at this
  lo := by have := h.lo; rwa [show off + (i + 1) = off + 1 + i by omega] at this
  nz := fun _ => by have := h.nz (by omega); rwa [show off + (i + 1) = off + 1 + i by omega] at this
theorem vAt_pos {t : ByteArray} : ∀ {i off : Nat}, GoodAt t off i → 0 < i → 0 < vAt t off (i + 1)
  | 0, _, _, h => absurd h (Nat.lt_irrefl _)
  | i + 1, off, h, _ => by
    have h1 := h.nz (by omega)
    have h2 := h.lo
    have : 0 < byt t (off + (i + 1)) % 128 := by omega
    have h3 : 0 < byt t (off + (i + 1)) % 128 * 128 ^ (i + 1) := Nat.mul_pos this (Nat.pow_pos (by decide))
    rw [vAt]; omega
theorem GoodAt.bytes {t : ByteArray} : ∀ {i off : Nat}, GoodAt t off i → (numB (vAt t off (i + 1))).size = i + 1 ∧ ∀ j, j ≤ i → sbyte (numB (vAt t off (i + 1))) j = sbyte t (off + j)
  | 0, off, h => by
    have hl := h.lo
    rw [Nat.add_zero] at hl
    have e : vAt t off 1 = byt t off := by simp [vAt]; omega
    have e2 : numB (byt t off) = oneB (byt t off) := by
      unfold numB
      rw [hiB_lt hl, loN_lt hl, empty_append]
    rw [e, e2]
    refine ⟨rfl, fun j hj => ?_⟩
    obtain rfl : j = 0 := Nat.le_zero.1 hj
    rw [sbyte_oneB (byt_lt t off), Nat.add_zero, sbyte_byt]
  | i + 1, off, h => by
    have ht := h.tail
    obtain ⟨h1, h2⟩ := GoodAt.bytes ht
    have h0 := h.hi 0 (by omega)
    rw [Nat.add_zero] at h0
    have hb := byt_lt t off
    have e := vAt_front t off (i + 1)
    have hpos : 0 < vAt t (off + 1) (i + 1) := by
      rcases Nat.eq_zero_or_pos i with rfl | hi
      · have h3 := h.nz (by omega)
        have h4 := h.lo
        simp only [Nat.zero_add] at h3 h4
        have : vAt t (off + 1) (0 + 1) = byt t (off + 1) % 128 := by simp [vAt]
        omega
      · exact vAt_pos ht hi
    have hge : ¬ vAt t off (i + 1 + 1) < 128 := by omega
    have hd : vAt t off (i + 1 + 1) / 128 = vAt t (off + 1) (i + 1) := by omega
    have hm : vAt t off (i + 1 + 1) % 128 + 128 = byt t off := by omega
    have en : numB (vAt t off (i + 1 + 1)) = oneB (byt t off) ++ numB (vAt t (off + 1) (i + 1)) := by
      show hiB _ ++ oneB (loN _) = _
      rw [hiB_ge hge, loN_ge hge, hd, hm, ByteArray.append_assoc]
      rfl
    rw [en]
    refine ⟨by simp [h1]; omega, fun j hj => ?_⟩
    rw [sbyte_append]
    cases j with
    | zero => rw [if_pos (by simp), sbyte_oneB hb, Nat.add_zero, sbyte_byt]
    | succ j =>
      rw [if_neg (by simp), show j + 1 - (oneB (byt t off)).size = j by simp, h2 j (by omega), show off + (j + 1) = off + 1 + j by omega]
theorem numB_good (n : Nat) : ∀ (t : ByteArray) (off : Nat), (∀ j, j < (numB n).size → sbyte t (off + j) = sbyte (numB n) j) → ∃ i, (numB n).size = i + 1 ∧ GoodAt t off i ∧ vAt t off (i + 1) = n := by
  induction n using Nat.strongRecOn with
  | _ n ih =>
    intro t off h
    by_cases hl : n < 128
    · have e2 : numB n = oneB n := by
        unfold numB
        rw [hiB_lt hl, loN_lt hl, empty_append]
      rw [e2] at h ⊢
      have h0 := h 0 (by simp)
      rw [sbyte_oneB (by omega), Nat.add_zero, sbyte_byt] at h0
      have h0 : byt t off = n := by omega
      refine ⟨0, rfl, ⟨fun j hj => absurd hj (Nat.not_lt_zero _), by rw [Nat.add_zero, h0]; exact hl, fun h => absurd h (Nat.lt_irrefl _)⟩, ?_⟩
      simp [vAt, h0]; omega
    · have en : numB n = oneB (n % 128 + 128) ++ numB (n / 128) := by
        show hiB _ ++ oneB (loN _) = _
        rw [hiB_ge hl, loN_ge hl, ByteArray.append_assoc]
        rfl
      have h0 := h 0 (by rw [en]; simp; omega)
      rw [en, sbyte_append, if_pos (by simp), sbyte_oneB (by omega), Nat.add_zero, sbyte_byt] at h0
      have h0 : byt t off = n % 128 + 128 := by omega
      obtain ⟨i, h1, h2, h3⟩ := ih (n / 128) (by omega) t (off + 1) fun j hj => by
        have := h (j + 1) (by rw [en]; simp; omega)
        rw [en, sbyte_append, if_neg (by simp), show j + 1 - (oneB (n % 128 + 128)).size = j by simp, show off + (j + 1) = off + 1 + j by omega] at this
        exact this
      refine ⟨i + 1, by rw [en]; simp [h1]; omega, ⟨fun j hj => ?_, ?_, fun _ => ?_⟩, ?_⟩
      · cases j with
        | zero => rw [Nat.add_zero, h0]; omega
        | succ j => have := h2.hi j (by omega); rwa [show off + (j + 1) = off + 1 + j by omega]
      · have := h2.lo; rwa [show off + (i + 1) = off + 1 + i by omega]
      · rw [show off + (i + 1) = off + 1 + i by omega]
        rcases Nat.eq_zero_or_pos i with rfl | hi
        · intro hz
          simp only [Nat.add_zero] at hz
          simp [vAt, hz] at h3
          omega
        · exact h2.nz hi
      · rw [vAt_front, h3, h0]; omega
end Go.Eng

namespace Go.Eng.RD
open Go Go.Eng
def BadC (t : ByteArray) (off k : Nat) : Prop := (byt t (off + k) < 128 ∧ byt t (off + k) = 0 ∧ 0 < k) ∨ (k = 8 ∧ (128 ≤ byt t (off + k) ∨ 4611686018427387904 < vAt t off (k + 1)))
def IsGood (t : ByteArray) (off len k : Nat) : Prop := k < len ∧ k ≤ 8 ∧ GoodAt t off k ∧ vAt t off (k + 1) ≤ 4611686018427387904
def IsCut (t : ByteArray) (off len : Nat) : Prop := len ≤ 8 ∧ ∀ j, j < len → 128 ≤ byt t (off + j)
def IsBad (t : ByteArray) (off len k : Nat) : Prop := k < len ∧ k ≤ 8 ∧ (∀ j, j < k → 128 ≤ byt t (off + j)) ∧ BadC t off k
theorem firstLow (t : ByteArray) (off : Nat) : ∀ m, (∀ j, j < m → 128 ≤ byt t (off + j)) ∨ ∃ k, k < m ∧ (∀ j, j < k → 128 ≤ byt t (off + j)) ∧ byt t (off + k) < 128
  | 0 => .inl fun j hj => absurd hj (Nat.not_lt_zero _)
  | m + 1 => by
    rcases firstLow t off m with h | ⟨k, h1, h2, h3⟩
    · by_cases hb : byt t (off + m) < 128
      · exact .inr ⟨m, Nat.lt_succ_self m, h, hb⟩
      · refine .inl fun j hj => ?_
        rcases Nat.lt_succ_iff_lt_or_eq.1 hj with h' | rfl
        · exact h j h'
        · omega
    · exact .inr ⟨k, Nat.lt_succ_of_lt h1, h2, h3⟩
theorem classify (t : ByteArray) (off len : Nat) : (∃ k, IsGood t off len k) ∨ IsCut t off len ∨ ∃ k, IsBad t off len k := by
  rcases firstLow t off (min len 9) with h | ⟨k, h1, h2, h3⟩
  · by_cases hl : len ≤ 8
    · exact .inr (.inl ⟨hl, fun j hj => h j (by omega)⟩)
    · exact .inr (.inr ⟨8, by omega, by omega, fun j hj => h j (by omega), .inr ⟨rfl, .inl (h 8 (by omega))⟩⟩)
  · by_cases hz : 0 < k ∧ byt t (off + k) = 0
    · exact .inr (.inr ⟨k, by omega, by omega, h2, .inl ⟨h3, hz.2, hz.1⟩⟩)
    · by_cases hv : k = 8 ∧ 4611686018427387904 < vAt t off (k + 1)
      · exact .inr (.inr ⟨k, by omega, by omega, h2, .inr ⟨hv.1, .inr hv.2⟩⟩)
      · refine .inl ⟨k, by omega, by omega, ⟨h2, h3, fun hp h0 => hz ⟨hp, h0⟩⟩, ?_⟩
        by_cases h8 : k = 8
        · omega
        · have h4 := vAt_lt t off (k + 1)
          have h5 : (128 : Nat) ^ (k + 1) ≤ 128 ^ 8 := Nat.pow_le_pow_right (by decide) (by omega)
          have h6 : (128 : Nat) ^ 8 = 72057594037927936 := by decide
          omega
theorem good_unique {t : ByteArray} {off len k k' : Nat} (h : IsGood t off len k) (h' : IsGood t off len k') : k = k' := by
  rcases Nat.lt_trichotomy k k' with hl | rfl | hl
  · have := h'.2.2.1.hi k hl; have := h.2.2.1.lo; omega
  · rfl
  · have := h.2.2.1.hi k' hl; have := h'.2.2.1.lo; omega
open Classical in
noncomputable def kG (t : ByteArray) (off len : Nat) : Nat := if h : ∃ k, IsGood t off len k then h.choose else 0
theorem kG_of {t : ByteArray} {off len k : Nat} (h : IsGood t off len k) : kG t off len = k := by
  have h' : ∃ k, IsGood t off len k := ⟨k, h⟩
  unfold kG
  rw [dif_pos h']
  exact good_unique h'.choose_spec h
def qG (t : ByteArray) (off : Nat) : Prop := ∃ k, IsGood t off (t.size - off) k
open Classical in
noncomputable def qN (t : ByteArray) (off : Nat) (e : Int) : Int := if ¬ e = 0 then 0 else if qG t off then (vAt t off (kG t off (t.size - off) + 1) : Int) else 0
open Classical in
noncomputable def qO (t : ByteArray) (off : Nat) (e : Int) : Nat := if ¬ e = 0 then off else if qG t off then off + (kG t off (t.size - off) + 1) else t.size
open Classical in
noncomputable def qE (t : ByteArray) (off : Nat) (e : Int) : Int := if ¬ e = 0 then e else if qG t off then 0 else if IsCut t off (t.size - off) then 30 else 31
theorem qN_bad {t : ByteArray} {off : Nat} {e : Int} (h : ¬ e = 0) : qN t off e = 0 := if_pos h
theorem qO_bad {t : ByteArray} {off : Nat} {e : Int} (h : ¬ e = 0) : qO t off e = off := if_pos h
theorem qE_bad {t : ByteArray} {off : Nat} {e : Int} (h : ¬ e = 0) : qE t off e = e := if_pos h
theorem q_good {t : ByteArray} {off k : Nat} (h : IsGood t off (t.size - off) k) : qN t off 0 = (vAt t off (k + 1) : Int) ∧ qO t off 0 = off + (k + 1) ∧ qE t off 0 = 0 := by
  have g : qG t off := ⟨k, h⟩
  unfold qN qO qE
  rw [if_neg (by simp), if_pos g, if_neg (by simp), if_pos g, if_neg (by simp), if_pos g, kG_of h]
  exact ⟨rfl, rfl, rfl⟩
theorem q_cut {t : ByteArray} {off : Nat} (h : IsCut t off (t.size - off)) : qN t off 0 = 0 ∧ qO t off 0 = t.size ∧ qE t off 0 = 30 := by
  have g : ¬ qG t off := fun ⟨k, h1, h2, h3, h4⟩ => by
    have := h.2 k h1; have := h3.lo; omega
  unfold qN qO qE
  rw [if_neg (by simp), if_neg g, if_neg (by simp), if_neg g, if_neg (by simp), if_neg g, if_pos h]
  exact ⟨rfl, rfl, rfl⟩
theorem q_no {t : ByteArray} {off k : Nat} (h : IsBad t off (t.size - off) k) : qN t off 0 = 0 ∧ qO t off 0 = t.size ∧ qE t off 0 = 31 := by
  obtain ⟨h1, h2, h3, h4⟩ := h
  have g : ¬ qG t off := fun ⟨k', g1, g2, g3, g4⟩ => by
    rcases Nat.lt_trichotomy k k' with hl | rfl | hl
    · have := g3.hi k hl
      rcases h4 with ⟨b1, b2, b3⟩ | ⟨b1, b2⟩
      · omega
      · omega
    · rcases h4 with ⟨b1, b2, b3⟩ | ⟨b1, b2⟩
      · exact g3.nz b3 b2
      · have := g3.lo; omega
    · have := h3 k' hl; have := g3.lo; omega
  have c : ¬ IsCut t off (t.size - off) := fun ⟨c1, c2⟩ => by
    have := c2 k h1
    rcases h4 with ⟨b1, b2, b3⟩ | ⟨b1, b2⟩
    · omega
    · omega
  unfold qN qO qE
  rw [if_neg (by simp), if_neg g, if_neg (by simp), if_neg g, if_neg (by simp), if_neg g, if_neg c]
  exact ⟨rfl, rfl, rfl⟩
theorem qO_le {t : ByteArray} {off : Nat} {e : Int} (h : off ≤ t.size) : off ≤ qO t off e ∧ qO t off e ≤ t.size := by
  by_cases he : e = 0
  · subst he
    rcases classify t off (t.size - off) with ⟨k, hk⟩ | hc | ⟨k, hk⟩
    · rw [(q_good hk).2.1]
      have := hk.1
      omega
    · rw [(q_cut hc).2.1]; omega
    · rw [(q_no hk).2.1]; omega
  · rw [qO_bad he]; omega
theorem qN_range {t : ByteArray} {off : Nat} {e : Int} : 0 ≤ qN t off e ∧ qN t off e ≤ 4611686018427387904 := by
  by_cases he : e = 0
  · subst he
    rcases classify t off (t.size - off) with ⟨k, hk⟩ | hc | ⟨k, hk⟩
    · rw [(q_good hk).1]
      have := hk.2.2.2
      omega
    · rw [(q_cut hc).1]; omega
    · rw [(q_no hk).1]; omega
  · rw [qN_bad he]; omega
def okS (t : ByteArray) (off : Nat) (e : Int) : Prop := off ≤ t.size ∧ (e = 0 ∨ off = t.size)
theorem q_okS {t : ByteArray} {off : Nat} {e : Int} (h : okS t off e) : okS t (qO t off e) (qE t off e) := by
  refine ⟨(qO_le h.1).2, ?_⟩
  by_cases he : e = 0
  · subst he
    rcases classify t off (t.size - off) with ⟨k, hk⟩ | hc | ⟨k, hk⟩
    · exact .inl (q_good hk).2.2
    · exact .inr (q_cut hc).2.1
    · exact .inr (q_no hk).2.1
  · rw [qO_bad he]; exact .inr (h.2.resolve_left he)
end Go.Eng.RD

namespace Go.Eng.SB
open Go Go.Eng Go.Eng.M Go.Eng.RD Go.Proofs
noncomputable def kFail : CT Try.prog Γb := CT.auto false 100 3 [] 97 Try.f97 (bodyOf Try.f97) false 24 [] Try.func97 (by kernel_rfl) (by kernel_rfl) (by kernel_rfl) (by kernel_rfl)
noncomputable def loopP : Code := loopOf (bodyOf Try.f87) 0
theorem roundP (off len N i : Nat) (n : Nat) (t : ByteArray) : roundE (P := Try.prog) (Γ := Γb) [kFail] Lno false 2 0 loopP [0, 19, 20, 21, 3, 2] [] 75 [.ptr 0 0, .hs 1 off len, .v (.int .i64 (len : Int)), .v (.int .i64 (i : Int)), .v (.int .u64 (n : Int)), .any] [some (.row [.hs 1 off len, .v (.int .i64 0)]), some (.arr 1 N (bsF t))] =
  Tree.br (decide ((↑i : Int) < (↑len : Int))) (Tree.chk (decide ((0 : Int) ≤ (↑i : Int)) && decide ((↑i : Int) < (↑len : Int))) (Tree.chk (decide ((0 : Int) ≤ IntKind.wrap IntKind.i64 ((7 :
    Int) * (↑i : Int)))) (Tree.br (bif decide (sbyte t (off + i) < (128 : Int)) then bif decide (sbyte t (off + i) = (0 : Int)) then decide ((0 : Int) < (↑i : Int)) else false else false)
    (Tree.br (bif decide (sbyte t (off + i) < (128 : Int)) then bif decide (sbyte t (off + i) = (0 : Int)) then decide ((0 : Int) < (↑i : Int)) else false else false) (Tree.br true
    (Tree.leaf (Out.mk AEx.ret [AV.ptr (0 : Nat) (0 : Nat), AV.hs (1 : Nat) off len, AV.v (Value.int IntKind.i64 (↑len : Int)), AV.v (Value.int IntKind.i64 (↑i : Int)), AV.v (Value.int
    IntKind.u64 (bitI BinOp.or IntKind.u64 (↑n : Int) (IntKind.wrap IntKind.u64 (IntKind.wrap IntKind.u64 (bitI BinOp.and IntKind.u8 (sbyte t (off + i)) (127 : Int)) * (2 : Int) ^ min
    (Int.toNat (IntKind.wrap IntKind.i64 ((7 : Int) * (↑i : Int)))) (64 : Nat))))), AV.v (Value.int IntKind.i64 (0 : Int))] [some (Blk.row [AV.v (Value.slice none (0 : Nat) (0 : Nat)), AV.v
    (Value.int IntKind.i64 (31 : Int))]), some (Blk.arr (1 : Nat) N fun j => [AV.v (Value.int IntKind.u8 (sbyte t j))])])) (Tree.leaf (Out.mk AEx.ret [AV.ptr (0 : Nat) (0 : Nat), AV.hs (1 :
    Nat) off len, AV.v (Value.int IntKind.i64 (↑len : Int)), AV.v (Value.int IntKind.i64 (↑i : Int)), AV.v (Value.int IntKind.u64 (bitI BinOp.or IntKind.u64 (↑n : Int) (IntKind.wrap
    IntKind.u64 (IntKind.wrap IntKind.u64 (bitI BinOp.and IntKind.u8 (sbyte t (off + i)) (127 : Int)) * (2 : Int) ^ min (Int.toNat (IntKind.wrap IntKind.i64 ((7 : Int) * (↑i : Int)))) (64 :
    Nat))))), AV.v (Value.int IntKind.i64 (0 : Int))] [some (Blk.row [AV.hs (1 : Nat) off len, AV.v (Value.int IntKind.i64 (0 : Int))]), some (Blk.arr (1 : Nat) N fun j => [AV.v (Value.int
    IntKind.u8 (sbyte t j))])]))) (Tree.br (decide (sbyte t (off + i) < (128 : Int))) (Tree.chk (decide ((0 : Int) ≤ IntKind.wrap IntKind.i64 ((↑i : Int) + (1 : Int))) && decide
    (IntKind.wrap IntKind.i64 ((↑i : Int) + (1 : Int)) ≤ (↑len : Int)) && decide ((↑len : Int) ≤ (↑len : Int))) (Tree.leaf (Out.mk AEx.ret [AV.ptr (0 : Nat) (0 : Nat), AV.hs (1 : Nat) off
    len, AV.v (Value.int IntKind.i64 (↑len : Int)), AV.v (Value.int IntKind.i64 (↑i : Int)), AV.v (Value.int IntKind.u64 (bitI BinOp.or IntKind.u64 (↑n : Int) (IntKind.wrap IntKind.u64
    (IntKind.wrap IntKind.u64 (bitI BinOp.and IntKind.u8 (sbyte t (off + i)) (127 : Int)) * (2 : Int) ^ min (Int.toNat (IntKind.wrap IntKind.i64 ((7 : Int) * (↑i : Int)))) (64 : Nat))))),
    AV.v (Value.int IntKind.i64 (IntKind.wrap IntKind.i64 (bitI BinOp.or IntKind.u64 (↑n : Int) (IntKind.wrap IntKind.u64 (IntKind.wrap IntKind.u64 (bitI BinOp.and IntKind.u8 (sbyte t (off +
    i)) (127 : Int)) * (2 : Int) ^ min (Int.toNat (IntKind.wrap IntKind.i64 ((7 : Int) * (↑i : Int)))) (64 : Nat))))))] [some (Blk.row [AV.hs (1 : Nat) (off + Int.toNat (IntKind.wrap
    IntKind.i64 ((↑i : Int) + (1 : Int)))) (len - Int.toNat (IntKind.wrap IntKind.i64 ((↑i : Int) + (1 : Int)))), AV.v (Value.int IntKind.i64 (0 : Int))]), some (Blk.arr (1 : Nat) N fun j =>
    [AV.v (Value.int IntKind.u8 (sbyte t j))])]))) (Tree.leaf (Out.mk AEx.normal [AV.ptr (0 : Nat) (0 : Nat), AV.hs (1 : Nat) off len, AV.v (Value.int IntKind.i64 (↑len : Int)), AV.v
    (Value.int IntKind.i64 (IntKind.wrap IntKind.i64 ((↑i : Int) + (1 : Int)))), AV.v (Value.int IntKind.u64 (bitI BinOp.or IntKind.u64 (↑n : Int) (IntKind.wrap IntKind.u64 (IntKind.wrap
    IntKind.u64 (bitI BinOp.and IntKind.u8 (sbyte t (off + i)) (127 : Int)) * (2 : Int) ^ min (Int.toNat (IntKind.wrap IntKind.i64 ((7 : Int) * (↑i : Int)))) (64 : Nat))))), AV.any] [some
    (Blk.row [AV.hs (1 : Nat) off len, AV.v (Value.int IntKind.i64 (0 : Int))]), some (Blk.arr (1 : Nat) N fun j => [AV.v (Value.int IntKind.u8 (sbyte t j))])])))) (Tree.br (bif decide ((↑i
    : Int) = (8 : Int)) then bif !decide (sbyte t (off + i) < (128 : Int)) then true else decide ((4611686018427387904 : Int) < bitI BinOp.or IntKind.u64 (↑n : Int) (IntKind.wrap IntKind.u64
    (IntKind.wrap IntKind.u64 (bitI BinOp.and IntKind.u8 (sbyte t (off + i)) (127 : Int)) * (2 : Int) ^ min (Int.toNat (IntKind.wrap IntKind.i64 ((7 : Int) * (↑i : Int)))) (64 : Nat)))) else
    false) (Tree.br true (Tree.leaf (Out.mk AEx.ret [AV.ptr (0 : Nat) (0 : Nat), AV.hs (1 : Nat) off len, AV.v (Value.int IntKind.i64 (↑len : Int)), AV.v (Value.int IntKind.i64 (↑i : Int)),
    AV.v (Value.int IntKind.u64 (bitI BinOp.or IntKind.u64 (↑n : Int) (IntKind.wrap IntKind.u64 (IntKind.wrap IntKind.u64 (bitI BinOp.and IntKind.u8 (sbyte t (off + i)) (127 : Int)) * (2 :
    Int) ^ min (Int.toNat (IntKind.wrap IntKind.i64 ((7 : Int) * (↑i : Int)))) (64 : Nat))))), AV.v (Value.int IntKind.i64 (0 : Int))] [some (Blk.row [AV.v (Value.slice none (0 : Nat) (0 :
    Nat)), AV.v (Value.int IntKind.i64 (31 : Int))]), some (Blk.arr (1 : Nat) N fun j => [AV.v (Value.int IntKind.u8 (sbyte t j))])])) (Tree.leaf (Out.mk AEx.ret [AV.ptr (0 : Nat) (0 : Nat),
    AV.hs (1 : Nat) off len, AV.v (Value.int IntKind.i64 (↑len : Int)), AV.v (Value.int IntKind.i64 (↑i : Int)), AV.v (Value.int IntKind.u64 (bitI BinOp.or IntKind.u64 (↑n : Int)
    (IntKind.wrap IntKind.u64 (IntKind.wrap IntKind.u64 (bitI BinOp.and IntKind.u8 (sbyte t (off + i)) (127 : Int)) * (2 : Int) ^ min (Int.toNat (IntKind.wrap IntKind.i64 ((7 : Int) * (↑i :
    Int)))) (64 : Nat))))), AV.v (Value.int IntKind.i64 (0 : Int))] [some (Blk.row [AV.hs (1 : Nat) off len, AV.v (Value.int IntKind.i64 (0 : Int))]), some (Blk.arr (1 : Nat) N fun j =>
    [AV.v (Value.int IntKind.u8 (sbyte t j))])]))) (Tree.br (decide (sbyte t (off + i) < (128 : Int))) (Tree.chk (decide ((0 : Int) ≤ IntKind.wrap IntKind.i64 ((↑i : Int) + (1 : Int))) &&
    decide (IntKind.wrap IntKind.i64 ((↑i : Int) + (1 : Int)) ≤ (↑len : Int)) && decide ((↑len : Int) ≤ (↑len : Int))) (Tree.leaf (Out.mk AEx.ret [AV.ptr (0 : Nat) (0 : Nat), AV.hs (1 : Nat)
    off len, AV.v (Value.int IntKind.i64 (↑len : Int)), AV.v (Value.int IntKind.i64 (↑i : Int)), AV.v (Value.int IntKind.u64 (bitI BinOp.or IntKind.u64 (↑n : Int) (IntKind.wrap IntKind.u64
    (IntKind.wrap IntKind.u64 (bitI BinOp.and IntKind.u8 (sbyte t (off + i)) (127 : Int)) * (2 : Int) ^ min (Int.toNat (IntKind.wrap IntKind.i64 ((7 : Int) * (↑i : Int)))) (64 : Nat))))),
    AV.v (Value.int IntKind.i64 (IntKind.wrap IntKind.i64 (bitI BinOp.or IntKind.u64 (↑n : Int) (IntKind.wrap IntKind.u64 (IntKind.wrap IntKind.u64 (bitI BinOp.and IntKind.u8 (sbyte t (off +
    i)) (127 : Int)) * (2 : Int) ^ min (Int.toNat (IntKind.wrap IntKind.i64 ((7 : Int) * (↑i : Int)))) (64 : Nat))))))] [some (Blk.row [AV.hs (1 : Nat) (off + Int.toNat (IntKind.wrap
    IntKind.i64 ((↑i : Int) + (1 : Int)))) (len - Int.toNat (IntKind.wrap IntKind.i64 ((↑i : Int) + (1 : Int)))), AV.v (Value.int IntKind.i64 (0 : Int))]), some (Blk.arr (1 : Nat) N fun j =>
    [AV.v (Value.int IntKind.u8 (sbyte t j))])]))) (Tree.leaf (Out.mk AEx.normal [AV.ptr (0 : Nat) (0 : Nat), AV.hs (1 : Nat) off len, AV.v (Value.int IntKind.i64 (↑len : Int)), AV.v
    (Value.int IntKind.i64 (IntKind.wrap IntKind.i64 ((↑i : Int) + (1 : Int)))), AV.v (Value.int IntKind.u64 (bitI BinOp.or IntKind.u64 (↑n : Int) (IntKind.wrap IntKind.u64 (IntKind.wrap
    IntKind.u64 (bitI BinOp.and IntKind.u8 (sbyte t (off + i)) (127 : Int)) * (2 : Int) ^ min (Int.toNat (IntKind.wrap IntKind.i64 ((7 : Int) * (↑i : Int)))) (64 : Nat))))), AV.any] [some
    (Blk.row [AV.hs (1 : Nat) off len, AV.v (Value.int IntKind.i64 (0 : Int))]), some (Blk.arr (1 : Nat) N fun j => [AV.v (Value.int IntKind.u8 (sbyte t j))])]))))))) (Tree.leaf (Out.mk
    (AEx.exit (0 : Nat)) [AV.ptr (0 : Nat) (0 : Nat), AV.hs (1 : Nat) off len, AV.v (Value.int IntKind.i64 (↑len : Int)), AV.v (Value.int IntKind.i64 (↑i : Int)), AV.v (Value.int IntKind.u64
    (↑n : Int)), AV.any] [some (Blk.row [AV.hs (1 : Nat) off len, AV.v (Value.int IntKind.i64 (0 : Int))]), some (Blk.arr (1 : Nat) N fun j => [AV.v (Value.int IntKind.u8 (sbyte t j))])])) := by kernel_rfl
def rdB (off len N : Nat) (t : ByteArray) : List Blk := [.row [.hs 1 off len, .v (.int .i64 0)], .arr 1 N (bsF t)]
def badB (e : Int) (N : Nat) (t : ByteArray) : List (Option Blk) := [some (.row [.v (.slice none 0 0), .v (.int .i64 e)]), some (.arr 1 N (bsF t))]
def SP (off len N : Nat) (t : ByteArray) (i : Nat) : List AV × Heap := ([.ptr 0 0, .hs 1 off len, .v (.int .i64 (len : Int)), .v (.int .i64 (i : Int)), .v (.int .u64 (vAt t off i : Int)), .any], (rdB off len N t).map some)
def OPg (off len N : Nat) (t : ByteArray) (k : Nat) : Out := ⟨.ret, [.any, .any, .any, .any, .any, .v (.int .i64 (vAt t off (k + 1) : Int))], (rdB (off + (k + 1)) (len - (k + 1)) N t).map some⟩
def OPb (N : Nat) (t : ByteArray) : Out := ⟨.ret, [.any, .any, .any, .any, .any, .v (.int .i64 0)], badB 31 N t⟩
def OPc (off len N : Nat) (t : ByteArray) : Out := ⟨.exit 0, [.ptr 0 0, .any, .any, .any, .any, .any], (rdB off len N t).map some⟩
theorem stepP {t : ByteArray} {off len N i : Nat} {Q : Out → Prop} (hi : i ≤ 8) (hlt : i < len) (hlen : len ≤ 1000000000000) :
    (∀ (c : Nat), c = byt t (off + i) →
      ((c < 128 ∧ c = 0 ∧ 0 < i) ∨ (i = 8 ∧ (128 ≤ c ∨ 4611686018427387904 < vAt t off (i + 1))) → Q ⟨.ret, [.ptr 0 0, .hs 1 off len, .v (.int .i64 (len : Int)), .v (.int .i64 (i : Int)), .v (.int .u64 (vAt t off (i + 1) : Int)), .v (.int .i64 0)], badB 31 N t⟩) ∧
      (c < 128 → (0 < i → c ≠ 0) → (i = 8 → vAt t off (i + 1) ≤ 4611686018427387904) → Q ⟨.ret, [.ptr 0 0, .hs 1 off len, .v (.int .i64 (len : Int)), .v (.int .i64 (i : Int)), .v (.int .u64 (vAt t off (i + 1) : Int)), .v (.int .i64 (vAt t off (i + 1) : Int))], (rdB (off + (i + 1)) (len - (i + 1)) N t).map some⟩) ∧
      (128 ≤ c → i < 8 → Q ⟨.normal, [.ptr 0 0, .hs 1 off len, .v (.int .i64 (len : Int)), .v (.int .i64 ((i + 1 : Nat) : Int)), .v (.int .u64 (vAt t off (i + 1) : Int)), .any], (rdB off len N t).map some⟩)) →
    (roundE (P := Try.prog) (Γ := Γb) [kFail] Lno false 2 0 loopP [0, 19, 20, 21, 3, 2] [] 75 [.ptr 0 0, .hs 1 off len, .v (.int .i64 (len : Int)), .v (.int .i64 (i : Int)), .v (.int .u64 (vAt t off i : Int)), .any] [some (.row [.hs 1 off len, .v (.int .i64 0)]), some (.arr 1 N (bsF t))]).sat Q := by
  intro h
  obtain ⟨h1, h2, h3⟩ := h _ rfl
  have hr := sbyte_range t (off + i)
  have hd := dig (c := sbyte t (off + i)) (vAt_lt t off i) hi hr.1 hr.2
  have hb : sbyte t (off + i) = (byt t (off + i) : Int) := sbyte_byt t _
  have hv : vAt t off i + byt t (off + i) % 128 * 128 ^ i = vAt t off (i + 1) := rfl
  have hbt := byt_lt t (off + i)
  have hvl : vAt t off (i + 1) < 9223372036854775808 := by
    have h1 := vAt_lt t off (i + 1)
    have h2 : (128 : Nat) ^ (i + 1) ≤ 128 ^ 9 := Nat.pow_le_pow_right (by decide) (by omega)
    have h3 : (128 : Nat) ^ 9 = 9223372036854775808 := by decide
    omega
  rw [hb, Int.toNat_natCast, hv] at hd
  rw [roundP]
  have e1 : IntKind.i64.wrap ((i : Int) + 1) = ((i + 1 : Nat) : Int) := by rw [wrap64E]; omega
  have e2 : IntKind.i64.wrap ((vAt t off (i + 1) : Nat) : Int) = ((vAt t off (i + 1) : Nat) : Int) := by rw [wrap64E]; omega
  have e3 : IntKind.i64.wrap ((7 : Int) * (i : Int)) = ((7 * i : Nat) : Int) := by rw [wrap64E]; omega
  have c1 : decide ((i : Int) < (len : Int)) = true := decide_eq_true (by omega)
  have c2 : decide ((0 : Int) ≤ (i : Int)) = true := decide_eq_true (by omega)
  have c3 : decide ((0 : Int) ≤ ((7 * i : Nat) : Int)) = true := decide_eq_true (by omega)
  have c4 : decide ((0 : Int) ≤ ((i + 1 : Nat) : Int)) = true := decide_eq_true (by omega)
  have c5 : decide (((i + 1 : Nat) : Int) ≤ (len : Int)) = true := decide_eq_true (by omega)
  simp only [Int.toNat_natCast, hb]
  simp only [hd]
  simp only [e1, e2, e3, c1, c2, c3, c4, c5, Int.toNat_natCast]
  refine ⟨fun _ => ⟨rfl, rfl, ?_⟩, fun h => by simp at h⟩
  by_cases hc : byt t (off + i) < 128
  · rw [decide_eq_true (show ((byt t (off + i) : Nat) : Int) < 128 by omega)]
    by_cases hz : byt t (off + i) = 0 ∧ 0 < i
    · rw [decide_eq_true (show ((byt t (off + i) : Nat) : Int) = 0 by omega), decide_eq_true (show (0 : Int) < (i : Int) by omega)]
      exact ⟨fun _ => ⟨fun _ => ⟨fun _ => h1 (.inl ⟨hc, hz.1, hz.2⟩), fun h => by simp at h⟩, fun h => by simp at h⟩, fun h => by simp at h⟩
    · have g : (bif true then bif decide (((byt t (off + i) : Nat) : Int) = 0) then decide ((0 : Int) < (i : Int)) else false else false) = false := by
        by_cases h0 : byt t (off + i) = 0
        · rw [decide_eq_true (show ((byt t (off + i) : Nat) : Int) = 0 by omega), decide_eq_false (show ¬ (0 : Int) < (i : Int) by omega)]; rfl
        · rw [decide_eq_false (show ¬ ((byt t (off + i) : Nat) : Int) = 0 by omega)]; rfl
      rw [g]
      by_cases h8 : i = 8 ∧ 4611686018427387904 < vAt t off (i + 1)
      · rw [decide_eq_true (show (i : Int) = 8 by omega), decide_eq_true (show (4611686018427387904 : Int) < ((vAt t off (i + 1) : Nat) : Int) by omega)]
        exact ⟨fun h => by simp at h, fun _ => ⟨fun _ => ⟨fun _ => h1 (.inr ⟨h8.1, .inr h8.2⟩), fun h => by simp at h⟩, fun h => by simp at h⟩⟩
      · have g2 : (bif decide ((i : Int) = 8) then bif !true then true else decide ((4611686018427387904 : Int) < ((vAt t off (i + 1) : Nat) : Int)) else false) = false := by
          by_cases h0 : i = 8
          · rw [decide_eq_true (show (i : Int) = 8 by omega), decide_eq_false (show ¬ (4611686018427387904 : Int) < ((vAt t off (i + 1) : Nat) : Int) by omega)]; rfl
          · rw [decide_eq_false (show ¬ (i : Int) = 8 by omega)]; rfl
        rw [g2]
        refine ⟨fun h => by simp at h, fun _ => ⟨fun h => by simp at h, fun _ => ⟨fun _ => ⟨by simp, h2 hc (fun hp h0 => hz ⟨h0, hp⟩) (fun h0 => by omega)⟩, fun h => by simp at h⟩⟩⟩
  · rw [decide_eq_false (show ¬ ((byt t (off + i) : Nat) : Int) < 128 by omega)]
    by_cases h8 : i = 8
    · rw [decide_eq_true (show (i : Int) = 8 by omega)]
      exact ⟨fun h => by simp at h, fun _ => ⟨fun _ => ⟨fun _ => h1 (.inr ⟨h8, .inl (by omega)⟩), fun h => by simp at h⟩, fun h => by simp at h⟩⟩
    · rw [decide_eq_false (show ¬ (i : Int) = 8 by omega)]
      exact ⟨fun h => by simp at h, fun _ => ⟨fun h => by simp at h, fun _ => ⟨fun h => by simp at h, fun _ => h3 (by omega) (by omega)⟩⟩⟩
end Go.Eng.SB

namespace Go.Eng.SB
open Go Go.Eng Go.Eng.M Go.Eng.RD Go.Proofs
theorem loopPg_ok {off len N k : Nat} {t : ByteArray} (h : IsGood t off len k) (hlen : len ≤ 1000000000000) : ∀ i, i ≤ k → LoopOK Try.prog Γb 2 75 loopP (LSpec.at [0, 19, 20, 21, 3, 2] [] (SP off len N t i) (OPg off len N t k)) := by
  obtain ⟨h1, h2, h3, h4⟩ := h
  refine loop_at (S := SP off len N t) (pre := fun i => i ≤ k) (O := fun _ => OPg off len N t k) (k := 0) (fun i => k - i) fun i hi => ⟨[kFail], Lno, false, noLoops (by kernel_rfl), ?_⟩
  refine stepP (by omega) (by omega) hlen fun c hc => ?_
  subst hc
  refine ⟨fun hb => ?_, fun hl _ _ => ?_, fun hl h8 => ?_⟩
  · exfalso
    rcases Nat.lt_or_ge i k with hik | hik
    · have := h3.hi i hik; omega
    · obtain rfl : i = k := Nat.le_antisymm hi hik
      rcases hb with ⟨_, b2, b3⟩ | ⟨b1, b2⟩
      · exact h3.nz b3 b2
      · have := h3.lo; omega
  · rcases Nat.lt_or_ge i k with hik | hik
    · have := h3.hi i hik; omega
    · obtain rfl : i = k := Nat.le_antisymm hi hik
      exact ⟨rfl, ⟨.any _, .any _, .any _, .any _, .any _, .refl _, trivial⟩, LeH.refl _⟩
  · rcases Nat.lt_or_ge i k with hik | hik
    · exact ⟨i + 1, LeL.refl _, LeH.refl _, hik, rfl, by show k - (i + 1) < k - i; omega⟩
    · obtain rfl : i = k := Nat.le_antisymm hi hik
      have := h3.lo; omega
theorem loopPb_ok {off len N k : Nat} {t : ByteArray} (h : IsBad t off len k) (hlen : len ≤ 1000000000000) : ∀ i, i ≤ k → LoopOK Try.prog Γb 2 75 loopP (LSpec.at [0, 19, 20, 21, 3, 2] [] (SP off len N t i) (OPb N t)) := by
  obtain ⟨h1, h2, h3, h4⟩ := h
  refine loop_at (S := SP off len N t) (pre := fun i => i ≤ k) (O := fun _ => OPb N t) (k := 0) (fun i => k - i) fun i hi => ⟨[kFail], Lno, false, noLoops (by kernel_rfl), ?_⟩
  refine stepP (by omega) (by omega) hlen fun c hc => ?_
  subst hc
  refine ⟨fun hb => ?_, fun hl hz hv => ?_, fun hl h8 => ?_⟩
  · exact ⟨rfl, ⟨.any _, .any _, .any _, .any _, .any _, .refl _, trivial⟩, LeH.refl _⟩
  · exfalso
    rcases Nat.lt_or_ge i k with hik | hik
    · have := h3 i hik; omega
    · obtain rfl : i = k := Nat.le_antisymm hi hik
      rcases h4 with ⟨_, b2, b3⟩ | ⟨b1, b2⟩
      · exact hz b3 b2
      · have := hv b1; omega
  · rcases Nat.lt_or_ge i k with hik | hik
    · exact ⟨i + 1, LeL.refl _, LeH.refl _, hik, rfl, by show k - (i + 1) < k - i; omega⟩
    · obtain rfl : i = k := Nat.le_antisymm hi hik
      exfalso
      rcases h4 with ⟨b1, _, _⟩ | ⟨b1, b2⟩
      · omega
      · omega
theorem loopPc_ok {off len N : Nat} {t : ByteArray} (h : IsCut t off len) : ∀ i, i ≤ len → LoopOK Try.prog Γb 2 75 loopP (LSpec.at [0, 19, 20, 21, 3, 2] [] (SP off len N t i) (OPc off len N t)) := by
  obtain ⟨h1, h2⟩ := h
  refine loop_at (S := SP off len N t) (pre := fun i => i ≤ len) (O := fun _ => OPc off len N t) (k := 0) (fun i => len - i) fun i hi => ⟨[kFail], Lno, false, noLoops (by kernel_rfl), ?_⟩
  rcases Nat.lt_or_ge i len with hil | hil
  · refine stepP (by omega) hil (by omega) fun c hc => ?_
    subst hc
    have hb := h2 i hil
    refine ⟨fun hb' => ?_, fun hl _ _ => ?_, fun hl h8 => ?_⟩
    · exfalso; rcases hb' with ⟨b1, _, _⟩ | ⟨b1, _⟩ <;> omega
    · exfalso; omega
    · exact ⟨i + 1, LeL.refl _, LeH.refl _, hil, rfl, by show len - (i + 1) < len - i; omega⟩
  · obtain rfl : i = len := Nat.le_antisymm hi hil
    show (roundE (P := Try.prog) (Γ := Γb) [kFail] Lno false 2 0 loopP [0, 19, 20, 21, 3, 2] [] 75 [.ptr 0 0, .hs 1 off i, .v (.int .i64 (i : Int)), .v (.int .i64 (i : Int)), .v (.int .u64 (vAt t off i : Int)), .any] [some (.row [.hs 1 off i, .v (.int .i64 0)]), some (.arr 1 N (bsF t))]).sat _
    rw [roundP, decide_eq_false (show ¬ (i : Int) < (i : Int) by omega)]
    exact ⟨fun h => by simp at h, fun _ => ⟨rfl, ⟨.refl _, .any _, .any _, .any _, .any _, .any _, trivial⟩, LeH.refl _⟩⟩
theorem runPg (off len N k : Nat) (t : ByteArray) : bodyE (P := Try.prog) (Γ := Γb) [kFail] (fun _ => LSpec.at [0, 19, 20, 21, 3, 2] [] (SP off len N t 0) (OPg off len N t k)) false 75 [.tmp 2] (bodyOf Try.f87) [.ptr 0 0] (rdB off len N t) =
  Tree.br false (Tree.leaf (Ans.mk (AV.v (Value.int IntKind.i64 (0 : Int))) [some (Blk.row [AV.hs (1 : Nat) off len, AV.v (Value.int IntKind.i64 (0 : Int))]), some (Blk.arr (1 : Nat) N fun j
    => [AV.v (Value.int IntKind.u8 (sbyte t j))])])) (Tree.chk (cl (LeL [AV.ptr (0 : Nat) (0 : Nat), AV.hs (1 : Nat) off len, AV.v (Value.int IntKind.i64 (↑len : Int)), AV.v (Value.int
    IntKind.i64 (0 : Int)), AV.v (Value.int IntKind.u64 (0 : Int)), AV.v (Value.int IntKind.i64 (0 : Int))] [AV.ptr (0 : Nat) (0 : Nat), AV.hs (1 : Nat) off len, AV.v (Value.int IntKind.i64
    (↑len : Int)), AV.v (Value.int IntKind.i64 (↑(0 : Nat) : Int)), AV.v (Value.int IntKind.u64 (↑(0 : Nat) : Int)), AV.any] ∧ LeH [some (Blk.row [AV.hs (1 : Nat) off len, AV.v (Value.int
    IntKind.i64 (0 : Int))]), some (Blk.arr (1 : Nat) N fun j => [AV.v (Value.int IntKind.u8 (sbyte t j))])] [some (Blk.row [AV.hs (1 : Nat) off len, AV.v (Value.int IntKind.i64 (0 :
    Int))]), some (Blk.arr (1 : Nat) N fun j => [AV.v (Value.int IntKind.u8 (sbyte t j))])])) (Tree.leaf (Ans.mk (AV.v (Value.int IntKind.i64 (↑(vAt t off (k + (1 : Nat))) : Int))) [some
    (Blk.row [AV.hs (1 : Nat) (off + (k + (1 : Nat))) (len - (k + (1 : Nat))), AV.v (Value.int IntKind.i64 (0 : Int))]), some (Blk.arr (1 : Nat) N fun j => [AV.v (Value.int IntKind.u8 (sbyte
    t j))])]))) := by kernel_rfl
theorem runPb (off len N : Nat) (t : ByteArray) : bodyE (P := Try.prog) (Γ := Γb) [kFail] (fun _ => LSpec.at [0, 19, 20, 21, 3, 2] [] (SP off len N t 0) (OPb N t)) false 75 [.tmp 2] (bodyOf Try.f87) [.ptr 0 0] (rdB off len N t) =
  Tree.br false (Tree.leaf (Ans.mk (AV.v (Value.int IntKind.i64 (0 : Int))) [some (Blk.row [AV.hs (1 : Nat) off len, AV.v (Value.int IntKind.i64 (0 : Int))]), some (Blk.arr (1 : Nat) N fun j
    => [AV.v (Value.int IntKind.u8 (sbyte t j))])])) (Tree.chk (cl (LeL [AV.ptr (0 : Nat) (0 : Nat), AV.hs (1 : Nat) off len, AV.v (Value.int IntKind.i64 (↑len : Int)), AV.v (Value.int
    IntKind.i64 (0 : Int)), AV.v (Value.int IntKind.u64 (0 : Int)), AV.v (Value.int IntKind.i64 (0 : Int))] [AV.ptr (0 : Nat) (0 : Nat), AV.hs (1 : Nat) off len, AV.v (Value.int IntKind.i64
    (↑len : Int)), AV.v (Value.int IntKind.i64 (↑(0 : Nat) : Int)), AV.v (Value.int IntKind.u64 (↑(0 : Nat) : Int)), AV.any] ∧ LeH [some (Blk.row [AV.hs (1 : Nat) off len, AV.v (Value.int
    IntKind.i64 (0 : Int))]), some (Blk.arr (1 : Nat) N fun j => [AV.v (Value.int IntKind.u8 (sbyte t j))])] [some (Blk.row [AV.hs (1 : Nat) off len, AV.v (Value.int IntKind.i64 (0 :
    Int))]), some (Blk.arr (1 : Nat) N fun j => [AV.v (Value.int IntKind.u8 (sbyte t j))])])) (Tree.leaf (Ans.mk (AV.v (Value.int IntKind.i64 (0 : Int))) [some (Blk.row [AV.v (Value.slice
    none (0 : Nat) (0 : Nat)), AV.v (Value.int IntKind.i64 (31 : Int))]), some (Blk.arr (1 : Nat) N fun j => [AV.v (Value.int IntKind.u8 (sbyte t j))])]))) := by kernel_rfl
theorem runPc (off len N : Nat) (t : ByteArray) : bodyE (P := Try.prog) (Γ := Γb) [kFail] (fun _ => LSpec.at [0, 19, 20, 21, 3, 2] [] (SP off len N t 0) (OPc off len N t)) false 75 [.tmp 2] (bodyOf Try.f87) [.ptr 0 0] (rdB off len N t) =
  Tree.br false (Tree.leaf (Ans.mk (AV.v (Value.int IntKind.i64 (0 : Int))) [some (Blk.row [AV.hs (1 : Nat) off len, AV.v (Value.int IntKind.i64 (0 : Int))]), some (Blk.arr (1 : Nat) N fun j
    => [AV.v (Value.int IntKind.u8 (sbyte t j))])])) (Tree.chk (cl (LeL [AV.ptr (0 : Nat) (0 : Nat), AV.hs (1 : Nat) off len, AV.v (Value.int IntKind.i64 (↑len : Int)), AV.v (Value.int
    IntKind.i64 (0 : Int)), AV.v (Value.int IntKind.u64 (0 : Int)), AV.v (Value.int IntKind.i64 (0 : Int))] [AV.ptr (0 : Nat) (0 : Nat), AV.hs (1 : Nat) off len, AV.v (Value.int IntKind.i64
    (↑len : Int)), AV.v (Value.int IntKind.i64 (↑(0 : Nat) : Int)), AV.v (Value.int IntKind.u64 (↑(0 : Nat) : Int)), AV.any] ∧ LeH [some (Blk.row [AV.hs (1 : Nat) off len, AV.v (Value.int
    IntKind.i64 (0 : Int))]), some (Blk.arr (1 : Nat) N fun j => [AV.v (Value.int IntKind.u8 (sbyte t j))])] [some (Blk.row [AV.hs (1 : Nat) off len, AV.v (Value.int IntKind.i64 (0 :
    Int))]), some (Blk.arr (1 : Nat) N fun j => [AV.v (Value.int IntKind.u8 (sbyte t j))])])) (Tree.br true (Tree.leaf (Ans.mk (AV.v (Value.int IntKind.i64 (0 : Int))) [some (Blk.row [AV.v
    (Value.slice none (0 : Nat) (0 : Nat)), AV.v (Value.int IntKind.i64 (30 : Int))]), some (Blk.arr (1 : Nat) N fun j => [AV.v (Value.int IntKind.u8 (sbyte t j))])])) (Tree.leaf (Ans.mk
    (AV.v (Value.int IntKind.i64 (0 : Int))) [some (Blk.row [AV.hs (1 : Nat) off len, AV.v (Value.int IntKind.i64 (0 : Int))]), some (Blk.arr (1 : Nat) N fun j => [AV.v (Value.int IntKind.u8
    (sbyte t j))])])))) := by kernel_rfl
theorem ansReadG {off len N k : Nat} {t : ByteArray} (h : IsGood t off len k) (hlen : len ≤ 1000000000000) : Answers Try.prog Γb 87 [.ptr 0 0] (rdB off len N t) (.v (.int .i64 (vAt t off (k + 1) : Int))) ((rdB (off + (k + 1)) (len - (k + 1)) N t).map some) [] :=
  answers (fn := Try.f87) (c := bodyOf Try.f87) (ntmps := 75) (results := [.tmp 2]) [kFail] (fun _ => LSpec.at [0, 19, 20, 21, 3, 2] [] (SP off len N t 0) (OPg off len N t k)) false Try.func87 (by kernel_rfl) (by kernel_rfl) (by kernel_rfl) (by kernel_rfl) (by simp) rfl (oneLoop (b := loopP) (by kernel_rfl) (loopPg_ok h hlen 0 (Nat.zero_le _)))
    (Meets.of (runPg off len N k t) ⟨fun h => by simp at h, fun _ => ⟨cl_iff.2 ⟨⟨.refl _, .refl _, .refl _, .refl _, .refl _, .any _, trivial⟩, LeH.refl _⟩, .refl _, LeH.refl _⟩⟩)
theorem ansReadB {off len N k : Nat} {t : ByteArray} (h : IsBad t off len k) (hlen : len ≤ 1000000000000) : Answers Try.prog Γb 87 [.ptr 0 0] (rdB off len N t) (.v (.int .i64 0)) (badB 31 N t) [] :=
  answers (fn := Try.f87) (c := bodyOf Try.f87) (ntmps := 75) (results := [.tmp 2]) [kFail] (fun _ => LSpec.at [0, 19, 20, 21, 3, 2] [] (SP off len N t 0) (OPb N t)) false Try.func87 (by kernel_rfl) (by kernel_rfl) (by kernel_rfl) (by kernel_rfl) (by simp) rfl (oneLoop (b := loopP) (by kernel_rfl) (loopPb_ok h hlen 0 (Nat.zero_le _)))
    (Meets.of (runPb off len N t) ⟨fun h => by simp at h, fun _ => ⟨cl_iff.2 ⟨⟨.refl _, .refl _, .refl _, .refl _, .refl _, .any _, trivial⟩, LeH.refl _⟩, .refl _, LeH.refl _⟩⟩)
theorem ansReadC {off len N : Nat} {t : ByteArray} (h : IsCut t off len) : Answers Try.prog Γb 87 [.ptr 0 0] (rdB off len N t) (.v (.int .i64 0)) (badB 30 N t) [] :=
  answers (fn := Try.f87) (c := bodyOf Try.f87) (ntmps := 75) (results := [.tmp 2]) [kFail] (fun _ => LSpec.at [0, 19, 20, 21, 3, 2] [] (SP off len N t 0) (OPc off len N t)) false Try.func87 (by kernel_rfl) (by kernel_rfl) (by kernel_rfl) (by kernel_rfl) (by simp) rfl (oneLoop (b := loopP) (by kernel_rfl) (loopPc_ok h 0 (Nat.zero_le _)))
    (Meets.of (runPc off len N t) ⟨fun h => by simp at h, fun _ => ⟨cl_iff.2 ⟨⟨.refl _, .refl _, .refl _, .refl _, .refl _, .any _, trivial⟩, LeH.refl _⟩, fun _ => ⟨.refl _, LeH.refl _⟩, fun h => by simp at h⟩⟩)

def rdb (t : ByteArray) (off : Nat) (e : Int) : List Blk := [.row [.hs 1 off (t.size - off), .v (.int .i64 e)], .arr 1 t.size (bsF t)]
theorem runPe (t : ByteArray) (off : Nat) (e : Int) : bodyE (P := Try.prog) (Γ := Γb) [kFail] Lno false 75 [.tmp 2] (bodyOf Try.f87) [.ptr 0 0] (rdb t off e) =
  Tree.br (!decide (e = (0 : Int))) (Tree.leaf (Ans.mk (AV.v (Value.int IntKind.i64 (0 : Int))) [some (Blk.row [AV.hs (1 : Nat) off (ByteArray.size t - off), AV.v (Value.int IntKind.i64 e)]),
    some (Blk.arr (1 : Nat) (ByteArray.size t) fun j => [AV.v (Value.int IntKind.u8 (sbyte t j))])])) Tree.fail := by kernel_rfl
theorem rdb_end {t : ByteArray} {e : Int} : [some (Blk.row [.hs 1 t.size 0, .v (.int .i64 e)]), some (Blk.arr 1 t.size (bsF t))] = (rdb t t.size e).map some := by
  unfold rdb
  rw [Nat.sub_self]; rfl
theorem ansRn {t : ByteArray} {off : Nat} {e : Int} (hz : t.size ≤ 1000000000000) : Answers Try.prog Γb 87 [.ptr 0 0] (rdb t off e) (.v (.int .i64 (qN t off e))) ((rdb t (qO t off e) (qE t off e)).map some) [] := by
  by_cases he : e = 0
  · subst he
    rcases classify t off (t.size - off) with ⟨k, hk⟩ | hc | ⟨k, hk⟩
    · obtain ⟨h1, h2, h3⟩ := q_good hk
      rw [h1, h2, h3]
      have := ansReadG (N := t.size) hk (by omega)
      rw [Nat.sub_sub] at this
      exact this
    · obtain ⟨h1, h2, h3⟩ := q_cut hc
      rw [h1, h2, h3, ← rdb_end]
      exact Answers.boxOut (Hin := rdB off (t.size - off) t.size t) 0 0 0 1 0 0 off (t.size - off) rfl rfl rfl (by show 1 < 2; decide) rfl rfl rfl (ansReadC (N := t.size) hc)
    · obtain ⟨h1, h2, h3⟩ := q_no hk
      rw [h1, h2, h3, ← rdb_end]
      exact Answers.boxOut (Hin := rdB off (t.size - off) t.size t) 0 0 0 1 0 0 off (t.size - off) rfl rfl rfl (by show 1 < 2; decide) rfl rfl rfl (ansReadB (N := t.size) hk (by omega))
  · rw [qN_bad he, qO_bad he, qE_bad he]
    exact answers (fn := Try.f87) (c := bodyOf Try.f87) (ntmps := 75) (results := [.tmp 2]) [kFail] Lno false Try.func87 (by kernel_rfl) (by kernel_rfl) (by kernel_rfl) (by kernel_rfl) (by simp) rfl (fun _ _ _ => fail_ok)
      (Meets.of (runPe t off e) (by
        rw [decide_eq_false he]
        exact ⟨fun _ => ⟨.refl _, LeH.refl _⟩, fun h => by simp at h⟩))
def ofR : List AV → List Blk → Option (Nat × Int)
  | [.ptr 0 0], [.row [.hs 1 off _, .v (.int _ e)], .arr _ _ _] => some (off, e)
  | _, _ => none
def ofRI : List AV → List Blk → Option (Nat × Int × Int)
  | [.ptr 0 0, .v (.int _ n)], [.row [.hs 1 off _, .v (.int _ e)], .arr _ _ _] => some (off, e, n)
  | _, _ => none
noncomputable def kRn (t : ByteArray) (hz : t.size ≤ 1000000000000) : CT Try.prog Γb := CT.par 87 ofR (fun _ => True) (fun _ => [.ptr 0 0]) (fun | (off, e) => rdb t off e) (fun | (off, e) => .v (.int .i64 (qN t off e))) (fun | (off, e) => (rdb t (qO t off e) (qE t off e)).map some) (fun _ => [])
  (callFunc_enters Try.func87 (by kernel_rfl) (by kernel_rfl)) (fun | (off, e), _ => ansRn hz)
def fO (n off : Nat) (e x : Int) : Nat := if e = 0 ∧ ¬ x = 0 then n else off
def fE (e x : Int) : Int := if e = 0 ∧ ¬ x = 0 then x else e
theorem runFl (t : ByteArray) (off : Nat) (e x : Int) : bodyE (P := Try.prog) (Γ := Γb) [] Lno false 24 [] (bodyOf Try.f97) [.ptr 0 0, .v (.int .i64 x)] (rdb t off e) =
  Tree.br (bif decide (e = (0 : Int)) then !decide (x = (0 : Int)) else false) (Tree.leaf (Ans.mk (AV.tup []) [some (Blk.row [AV.v (Value.slice none (0 : Nat) (0 : Nat)), AV.v (Value.int
    IntKind.i64 x)]), some (Blk.arr (1 : Nat) (ByteArray.size t) fun j => [AV.v (Value.int IntKind.u8 (sbyte t j))])])) (Tree.leaf (Ans.mk (AV.tup []) [some (Blk.row [AV.hs (1 : Nat) off
    (ByteArray.size t - off), AV.v (Value.int IntKind.i64 e)]), some (Blk.arr (1 : Nat) (ByteArray.size t) fun j => [AV.v (Value.int IntKind.u8 (sbyte t j))])])) := by kernel_rfl
theorem ansFl {t : ByteArray} {off : Nat} {e x : Int} : Answers Try.prog Γb 97 [.ptr 0 0, .v (.int .i64 x)] (rdb t off e) (.tup []) ((rdb t (fO t.size off e x) (fE e x)).map some) [] := by
  by_cases h : e = 0 ∧ ¬ x = 0
  · have e1 : fO t.size off e x = t.size := if_pos h
    have e2 : fE e x = x := if_pos h
    rw [e1, e2, ← rdb_end]
    refine Answers.boxOut (Hin := rdb t off e) 0 0 0 1 0 0 off (t.size - off) rfl rfl rfl (by show 1 < 2; decide) rfl rfl rfl (v := .tup []) (H1 := badB x t.size t) (new := []) ?_
    refine answers (fn := Try.f97) (c := bodyOf Try.f97) (ntmps := 24) (results := []) [] (Lno) false Try.func97 (by kernel_rfl) (by kernel_rfl) (by kernel_rfl) (by kernel_rfl) (by simp) rfl (failOK fun _ _ _ => rfl) <| Meets.of (runFl t off e x) <| ?_
    rw [decide_eq_true h.1, decide_eq_false h.2]
    exact ⟨fun _ => ⟨.refl _, LeH.refl _⟩, fun h => by simp at h⟩
  · have e1 : fO t.size off e x = off := if_neg h
    have e2 : fE e x = e := if_neg h
    rw [e1, e2]
    refine answers (fn := Try.f97) (c := bodyOf Try.f97) (ntmps := 24) (results := []) [] (Lno) false Try.func97 (by kernel_rfl) (by kernel_rfl) (by kernel_rfl) (by kernel_rfl) (by simp) rfl (failOK fun _ _ _ => rfl) <| Meets.of (runFl t off e x) <| ?_
    have hc : (bif decide (e = (0 : Int)) then !decide (x = (0 : Int)) else false) = false := by
      by_cases h1 : e = 0
      · have h2 : x = 0 := by
          by_cases h2 : x = 0
          · exact h2
          · exact absurd ⟨h1, h2⟩ h
        rw [decide_eq_true h1, decide_eq_true h2]; rfl
      · rw [decide_eq_false h1]; rfl
    rw [hc]
    exact ⟨fun h => by simp at h, fun _ => ⟨.refl _, LeH.refl _⟩⟩
noncomputable def kFl (t : ByteArray) : CT Try.prog Γb := CT.par 97 ofRI (fun _ => True) (fun | (off, e, x) => [.ptr 0 0, .v (.int .i64 x)]) (fun | (off, e, x) => rdb t off e) (fun _ => .tup []) (fun | (off, e, x) => (rdb t (fO t.size off e x) (fE e x)).map some) (fun _ => [])
  (callFunc_enters Try.func97 (by kernel_rfl) (by kernel_rfl)) (fun | (off, e, x), _ => ansFl)
theorem runRs (t : ByteArray) (off : Nat) (e : Int) : bodyE (P := Try.prog) (Γ := Γb) [] Lno false 10 [.tmp 2] (bodyOf Try.f44) [.ptr 0 0] (rdb t off e) =
  Tree.leaf (Ans.mk (AV.v (Value.int IntKind.i64 (↑(ByteArray.size t - off) : Int))) [some (Blk.row [AV.hs (1 : Nat) off (ByteArray.size t - off), AV.v (Value.int IntKind.i64 e)]), some
    (Blk.arr (1 : Nat) (ByteArray.size t) fun j => [AV.v (Value.int IntKind.u8 (sbyte t j))])]) := by kernel_rfl
theorem ansRs {t : ByteArray} {off : Nat} {e : Int} : Answers Try.prog Γb 44 [.ptr 0 0] (rdb t off e) (.v (.int .i64 ((t.size - off : Nat) : Int))) ((rdb t off e).map some) [] := by
  refine answers (fn := Try.f44) (c := bodyOf Try.f44) (ntmps := 10) (results := [.tmp 2]) [] (Lno) false Try.func44 (by kernel_rfl) (by kernel_rfl) (by kernel_rfl) (by kernel_rfl) (by simp) rfl (failOK fun _ _ _ => rfl) <| Meets.of (runRs t off e) <| ?_
  repeat' (first | refine wC (by first | omega | (simp only [W1, cond_true, cond_false]; first | done | omega)) ?_ | refine wT (by first | omega | (simp only [W1, cond_true, cond_false]; first | done | omega)) ?_ | refine wF (by intro _h; first | omega | (simp only [W1, cond_true, cond_false] at _h; first | done | omega)) ?_ | (refine wS ?_ ?_ <;> intro _h <;> simp only [W1, cond_true, cond_false] at _h))
  all_goals simp only [W1, W2, owesN, owesX, owesR, cond_true, cond_false]
  repeat' (first | apply And.intro | intro _hc)
  all_goals first | exact AV.le_refl _ | exact AV.le_any _ | exact OLe.refl _ | exact OLe.none _ | exact LeH.refl _ | exact LeL.refl _ | exact AV.le.bs _ | exact AV.le.sb _ | omega | contradiction
noncomputable def kRs (t : ByteArray) : CT Try.prog Γb := CT.par 44 ofR (fun _ => True) (fun _ => [.ptr 0 0]) (fun | (off, e) => rdb t off e) (fun | (off, e) => .v (.int .i64 ((t.size - off : Nat) : Int))) (fun | (off, e) => (rdb t off e).map some) (fun _ => [])
  (callFunc_enters Try.func44 (by kernel_rfl) (by kernel_rfl)) (fun | (off, e), _ => ansRs)
def dE (t : ByteArray) (off : Nat) (e : Int) : Int := if e = 0 ∧ off < t.size then 32 else e
theorem runDn (t : ByteArray) (off : Nat) (e : Int) : bodyE (P := Try.prog) (Γ := Γb) [] Lno false 24 [.tmp 2] (bodyOf Try.f88) [.ptr 0 0] (rdb t off e) =
  Tree.br (bif decide (e = (0 : Int)) then decide ((0 : Int) < (↑(ByteArray.size t - off) : Int)) else false) (Tree.leaf (Ans.mk (AV.v (Value.int IntKind.i64 (32 : Int))) [some (Blk.row [AV.hs
    (1 : Nat) off (ByteArray.size t - off), AV.v (Value.int IntKind.i64 e)]), some (Blk.arr (1 : Nat) (ByteArray.size t) fun j => [AV.v (Value.int IntKind.u8 (sbyte t j))])])) (Tree.leaf
    (Ans.mk (AV.v (Value.int IntKind.i64 e)) [some (Blk.row [AV.hs (1 : Nat) off (ByteArray.size t - off), AV.v (Value.int IntKind.i64 e)]), some (Blk.arr (1 : Nat) (ByteArray.size t) fun j
    => [AV.v (Value.int IntKind.u8 (sbyte t j))])])) := by kernel_rfl
theorem ansDn {t : ByteArray} {off : Nat} {e : Int} : Answers Try.prog Γb 88 [.ptr 0 0] (rdb t off e) (.v (.int .i64 (dE t off e))) ((rdb t off e).map some) [] := by
  refine answers (fn := Try.f88) (c := bodyOf Try.f88) (ntmps := 24) (results := [.tmp 2]) [] (Lno) false Try.func88 (by kernel_rfl) (by kernel_rfl) (by kernel_rfl) (by kernel_rfl) (by simp) rfl (failOK fun _ _ _ => rfl) <| Meets.of (runDn t off e) <| ?_
  by_cases h : e = 0 ∧ off < t.size
  · have e1 : dE t off e = 32 := if_pos h
    obtain ⟨h1, h2⟩ := h
    rw [e1]
    repeat' (first | refine wC (by first | omega | (simp only [W1, cond_true, cond_false, h1]; first | done | omega)) ?_ | refine wT (by first | omega | (simp only [W1, cond_true, cond_false, h1]; first | done | omega)) ?_ | refine wF (by intro _h; first | omega | (simp only [W1, cond_true, cond_false, h1] at _h; first | done | omega)) ?_ | (refine wS ?_ ?_ <;> intro _h <;> simp only [W1, cond_true, cond_false, h1] at _h))
    all_goals simp only [W1, W2, owesN, owesX, owesR, cond_true, cond_false, h1]
    repeat' (first | apply And.intro | intro _hc)
    all_goals first | exact AV.le_refl _ | exact AV.le_any _ | exact OLe.refl _ | exact OLe.none _ | exact LeH.refl _ | exact LeL.refl _ | exact AV.le.bs _ | exact AV.le.sb _ | omega | contradiction
  · have e1 : dE t off e = e := if_neg h
    rw [e1]
    repeat' (first | refine wC (by first | omega | (simp only [W1, cond_true, cond_false]; first | done | omega)) ?_ | refine wT (by first | omega | (simp only [W1, cond_true, cond_false]; first | done | omega)) ?_ | refine wF (by intro _h; first | omega | (simp only [W1, cond_true, cond_false] at _h; first | done | omega)) ?_ | (refine wS ?_ ?_ <;> intro _h <;> simp only [W1, cond_true, cond_false] at _h))
    all_goals simp only [W1, W2, owesN, owesX, owesR, cond_true, cond_false]
    repeat' (first | apply And.intro | intro _hc)
    all_goals first | exact AV.le_refl _ | exact AV.le_any _ | exact OLe.refl _ | exact OLe.none _ | exact LeH.refl _ | exact LeL.refl _ | exact AV.le.bs _ | exact AV.le.sb _ | omega | contradiction
noncomputable def kDn (t : ByteArray) : CT Try.prog Γb := CT.par 88 ofR (fun _ => True) (fun _ => [.ptr 0 0]) (fun | (off, e) => rdb t off e) (fun | (off, e) => .v (.int .i64 (dE t off e))) (fun | (off, e) => (rdb t off e).map some) (fun _ => [])
  (callFunc_enters Try.func88 (by kernel_rfl) (by kernel_rfl)) (fun | (off, e), _ => ansDn)
end Go.Eng.SB

namespace Go.Eng.SB
open Go Go.Eng Go.Eng.M Go.Proofs
inductive BA where
  | nil
  | sl (t : ByteArray)
  | hs (t : ByteArray)
def BA.t : BA → ByteArray
  | .nil => ⟨#[]⟩
  | .sl t => t
  | .hs t => t
def BA.av : BA → AV
  | .nil => .v (.slice none 0 0)
  | .sl t => .sl 1 t.size (bsF t)
  | .hs t => .hs 0 0 t.size
def BA.bl : BA → List Blk
  | .hs t => [.arr 1 t.size (bsF t)]
  | _ => []
def BA.n : BA → Nat
  | .hs _ => 1
  | _ => 0
def small (t : ByteArray) : Prop := t.size ≤ 1000000000
theorem runCn  : bodyE (P := Try.prog) (Γ := Γb) [] Lno false 8 [.tmp 2] (bodyOf Try.f95) [.v (.slice none 0 0)] [] =
  Tree.leaf (Ans.mk (AV.v (Value.slice none (0 : Nat) (0 : Nat))) []) := by kernel_rfl
theorem runCs (t : ByteArray) : bodyE (P := Try.prog) (Γ := Γb) [] Lno false 8 [.tmp 2] (bodyOf Try.f95) [.sl 1 t.size (bsF t)] [] =
  Tree.chk (Nat.blt (0 : Nat) (ByteArray.size t) || mkd [AV.v (Value.int IntKind.u8 (sbyte t (ByteArray.size t)))]) (Tree.chk (roomOk (1 : Nat) ((0 : Nat) + ByteArray.size t)) (Tree.leaf
    (Ans.mk (AV.hs (0 : Nat) (0 : Nat) ((0 : Nat) + ByteArray.size t)) [some (Blk.arr (1 : Nat) ((0 : Nat) + ByteArray.size t) fun j => mixL (decide (j < (0 : Nat))) (chain [AV.v (Value.int
    IntKind.u8 (0 : Int))] (0 : Nat) [] ((0 : Nat) + j)) [AV.v (Value.int IntKind.u8 (sbyte t j))])]))) := by kernel_rfl
theorem runCh (t : ByteArray) : bodyE (P := Try.prog) (Γ := Γb) [] Lno false 8 [.tmp 2] (bodyOf Try.f95) [.hs 0 0 t.size] [.arr 1 t.size (bsF t)] =
  Tree.chk (Nat.blt (0 : Nat) (ByteArray.size t) || Nat.blt (0 : Nat) (ByteArray.size t)) (Tree.chk (roomOk (1 : Nat) ((0 : Nat) + ByteArray.size t)) (Tree.leaf (Ans.mk (AV.hs (1 : Nat) (0 :
    Nat) ((0 : Nat) + ByteArray.size t)) [some (Blk.arr (1 : Nat) (ByteArray.size t) fun j => [AV.v (Value.int IntKind.u8 (sbyte t j))]), some (Blk.arr (1 : Nat) ((0 : Nat) + ByteArray.size
    t) fun j => mixL (decide (j < (0 : Nat))) (chain [AV.v (Value.int IntKind.u8 (0 : Int))] (0 : Nat) [] ((0 : Nat) + j)) [AV.v (Value.int IntKind.u8 (sbyte t ((0 : Nat) + j)))])]))) := by kernel_rfl
def BA.ok : BA → Prop
  | .nil => True
  | .sl t => small t ∧ 0 < t.size
  | .hs t => small t ∧ 0 < t.size
theorem room {n : Nat} (h : n ≤ 2000000000) : roomOk 1 (0 + n) = true := by
  unfold roomOk
  exact decide_eq_true (by omega)
theorem room' {n : Nat} (h : n ≤ 2000000000) : roomOk 1 n = true := by
  unfold roomOk
  exact decide_eq_true (by omega)
theorem cut0 (t : ByteArray) (j : Nat) : (bif decide (j < (0 : Nat)) then (0 : Int) else sbyte t (j - (0 : Nat))) = sbyte t j := by
  rw [decide_eq_false (Nat.not_lt_zero _)]; rfl
theorem cut1 (t : ByteArray) (j : Nat) : (bif decide (j < (0 : Nat)) then (0 : Int) else sbyte t ((0 : Nat) + (j - (0 : Nat)))) = sbyte t j := by
  rw [decide_eq_false (Nat.not_lt_zero _), Nat.zero_add]; rfl
def cloneV : BA → AV
  | .nil => nilSlice
  | .sl t => .hs 0 0 t.size
  | .hs t => .hs 1 0 t.size
def cloneN : BA → List Blk
  | .nil => []
  | .sl t => [.arr 1 t.size (bsF t)]
  | .hs t => [.arr 1 t.size (bsF t)]
theorem cutU (t : ByteArray) : (fun j => mixL (decide (j < 0)) (chain [AV.v (Value.int IntKind.u8 0)] 0 [] j) [AV.v (Value.int IntKind.u8 (sbyte t j))]) = bsF t := by
  funext j
  show mixL _ [AV.v (Value.int IntKind.u8 0)] _ = _
  rw [mixU, decide_eq_false (Nat.not_lt_zero j)]
  rfl
theorem cutO (t : ByteArray) : OLe (some (.arr 1 t.size fun j => mixL (decide (j < 0)) (chain [AV.v (Value.int IntKind.u8 0)] 0 [] j) [AV.v (Value.int IntKind.u8 (sbyte t j))])) (some (.arr 1 t.size (bsF t))) := by
  rw [cutU]; exact OLe.refl _
theorem ansClone (x : BA) (hp : x.ok) : Answers Try.prog Γb 95 [x.av] x.bl (cloneV x) (x.bl.map some) (cloneN x) := by
  cases x with
  | nil =>
    refine answers (fn := Try.f95) (c := bodyOf Try.f95) (ntmps := 8) (results := [.tmp 2]) [] (Lno) false Try.func95 (by kernel_rfl) (by kernel_rfl) (by kernel_rfl) (by kernel_rfl) (by simp) rfl (failOK fun _ _ _ => rfl) <| Meets.of (runCn) <| ?_
    repeat' (first | refine wC (by first | omega | (simp only [W1, cond_true, cond_false]; first | done | omega)) ?_ | refine wT (by first | omega | (simp only [W1, cond_true, cond_false]; first | done | omega)) ?_ | refine wF (by intro _h; first | omega | (simp only [W1, cond_true, cond_false] at _h; first | done | omega)) ?_ | (refine wS ?_ ?_ <;> intro _h <;> simp only [W1, cond_true, cond_false] at _h))
    all_goals simp only [W1, W2, owesN, owesX, owesR, cond_true, cond_false]
    repeat' (first | apply And.intro | intro _hc)
    all_goals first | exact AV.le_refl _ | exact AV.le_any _ | exact OLe.refl _ | exact OLe.none _ | exact LeH.refl _ | exact LeL.refl _ | exact AV.le.bs _ | exact AV.le.sb _ | omega | contradiction
  | sl t =>
    refine answers (fn := Try.f95) (c := bodyOf Try.f95) (ntmps := 8) (results := [.tmp 2]) [] (Lno) false Try.func95 (by kernel_rfl) (by kernel_rfl) (by kernel_rfl) (by kernel_rfl) (by simp) rfl (failOK fun _ _ _ => rfl) <| Meets.of (runCs t) <| ?_
    have h1 : Nat.blt 0 t.size = true := by rw [Nat.blt_eq]; exact hp.2
    have h2 : t.size ≤ 1000000000 := hp.1
    have hO := cutO t
    simp only [Nat.zero_add, h1, Bool.true_or]
    repeat' (first | refine wC (by first | omega | (simp only [W1, cond_true, cond_false]; first | done | omega)) ?_ | refine wT (by first | omega | (simp only [W1, cond_true, cond_false]; first | done | omega)) ?_ | refine wF (by intro _h; first | omega | (simp only [W1, cond_true, cond_false] at _h; first | done | omega)) ?_ | (refine wS ?_ ?_ <;> intro _h <;> simp only [W1, cond_true, cond_false] at _h))
    all_goals simp only [W1, W2, owesN, owesX, owesR, cond_true, cond_false]
    repeat' (first | apply And.intro | intro _hc)
    all_goals first | exact room' (by omega) | exact hO | exact ⟨hO, trivial⟩ | exact AV.le_refl _ | exact AV.le_any _ | exact OLe.refl _ | exact OLe.none _ | exact LeH.refl _ | exact LeL.refl _ | exact AV.le.bs _ | exact AV.le.sb _ | omega | contradiction
  | hs t =>
    refine answers (fn := Try.f95) (c := bodyOf Try.f95) (ntmps := 8) (results := [.tmp 2]) [] (Lno) false Try.func95 (by kernel_rfl) (by kernel_rfl) (by kernel_rfl) (by kernel_rfl) (by simp) rfl (failOK fun _ _ _ => rfl) <| Meets.of (runCh t) <| ?_
    have h1 : Nat.blt 0 t.size = true := by rw [Nat.blt_eq]; exact hp.2
    have h2 : t.size ≤ 1000000000 := hp.1
    have hO := cutO t
    simp only [Nat.zero_add, h1, Bool.true_or]
    repeat' (first | refine wC (by first | omega | (simp only [W1, cond_true, cond_false]; first | done | omega)) ?_ | refine wT (by first | omega | (simp only [W1, cond_true, cond_false]; first | done | omega)) ?_ | refine wF (by intro _h; first | omega | (simp only [W1, cond_true, cond_false] at _h; first | done | omega)) ?_ | (refine wS ?_ ?_ <;> intro _h <;> simp only [W1, cond_true, cond_false] at _h))
    all_goals simp only [W1, W2, owesN, owesX, owesR, cond_true, cond_false]
    repeat' (first | apply And.intro | intro _hc)
    all_goals first | exact room' (by omega) | exact hO | exact ⟨OLe.refl _, hO, trivial⟩ | exact AV.le_refl _ | exact AV.le_any _ | exact OLe.refl _ | exact OLe.none _ | exact LeH.refl _ | exact LeL.refl _ | exact AV.le.bs _ | exact AV.le.sb _ | omega | contradiction
noncomputable def loopN : Code := loopOf (bodyOf Try.f121) 0
theorem roundN0 (n : Nat) (t : ByteArray) : roundE (P := Try.prog) (Γ := Γb) [] Lno false 0 0 loopN [1, 6] [(1, 5)] 30 [.v (.int .i64 (n : Int)), .hs 0 0 t.size] [some (.arr 1 t.size (bsF t))] =
  Tree.br (decide ((128 : Int) ≤ (↑n : Int))) (Tree.chk (roomOk (1 : Nat) (ByteArray.size t + (1 : Nat))) (Tree.chk true (Tree.leaf (Out.mk AEx.normal [AV.v (Value.int IntKind.i64 (Int.fdiv
    (↑n : Int) ((2 : Int) ^ min (Int.toNat (7 : Int)) (64 : Nat)))), AV.hs (0 : Nat) (0 : Nat) (ByteArray.size t + (1 : Nat))] [some (Blk.arr (1 : Nat) (ByteArray.size t + (1 : Nat)) fun j
    => mixL (decide (j < ByteArray.size t)) [AV.v (Value.int IntKind.u8 (sbyte t ((0 : Nat) + j)))] (chain [AV.v (Value.int IntKind.u8 (0 : Int))] (0 : Nat) [[AV.v (Value.int IntKind.u8
    (bitI BinOp.or IntKind.u8 (IntKind.wrap IntKind.u8 (↑n : Int)) (128 : Int)))]] ((0 : Nat) + (j - ByteArray.size t))))])))) (Tree.leaf (Out.mk (AEx.exit (0 : Nat)) [AV.v (Value.int
    IntKind.i64 (↑n : Int)), AV.hs (0 : Nat) (0 : Nat) (ByteArray.size t)] [some (Blk.arr (1 : Nat) (ByteArray.size t) fun j => [AV.v (Value.int IntKind.u8 (sbyte t j))])])) := by kernel_rfl
theorem roundN1 (n : Nat) (t b : ByteArray) : roundE (P := Try.prog) (Γ := Γb) [] Lno false 1 0 loopN [1, 6] [(1, 5)] 30 [.v (.int .i64 (n : Int)), .hs 1 0 t.size] [some (.arr 1 b.size (bsF b)), some (.arr 1 t.size (bsF t))] =
  Tree.br (decide ((128 : Int) ≤ (↑n : Int))) (Tree.chk (roomOk (1 : Nat) (ByteArray.size t + (1 : Nat))) (Tree.chk true (Tree.leaf (Out.mk AEx.normal [AV.v (Value.int IntKind.i64 (Int.fdiv
    (↑n : Int) ((2 : Int) ^ min (Int.toNat (7 : Int)) (64 : Nat)))), AV.hs (1 : Nat) (0 : Nat) (ByteArray.size t + (1 : Nat))] [some (Blk.arr (1 : Nat) (ByteArray.size b) fun j => [AV.v
    (Value.int IntKind.u8 (sbyte b j))]), some (Blk.arr (1 : Nat) (ByteArray.size t + (1 : Nat)) fun j => mixL (decide (j < ByteArray.size t)) [AV.v (Value.int IntKind.u8 (sbyte t ((0 : Nat)
    + j)))] (chain [AV.v (Value.int IntKind.u8 (0 : Int))] (0 : Nat) [[AV.v (Value.int IntKind.u8 (bitI BinOp.or IntKind.u8 (IntKind.wrap IntKind.u8 (↑n : Int)) (128 : Int)))]] ((0 : Nat) +
    (j - ByteArray.size t))))])))) (Tree.leaf (Out.mk (AEx.exit (0 : Nat)) [AV.v (Value.int IntKind.i64 (↑n : Int)), AV.hs (1 : Nat) (0 : Nat) (ByteArray.size t)] [some (Blk.arr (1 : Nat)
    (ByteArray.size b) fun j => [AV.v (Value.int IntKind.u8 (sbyte b j))]), some (Blk.arr (1 : Nat) (ByteArray.size t) fun j => [AV.v (Value.int IntKind.u8 (sbyte t j))])])) := by kernel_rfl
def SN (a : BA) (n : Nat) (t : ByteArray) : List AV × Heap := ([.v (.int .i64 (n : Int)), .hs a.n 0 t.size], a.bl.map some ++ [some (.arr 1 t.size (bsF t))])
def preN (x : Nat × ByteArray) : Prop := x.1 ≤ 4611686018427387904 ∧ x.2.size + (hiB x.1).size ≤ 1000000100
def ON (a : BA) (n : Nat) (t : ByteArray) : Out := ⟨.exit 0, [.v (.int .i64 (loN n : Int)), .hs a.n 0 (t ++ hiB n).size], a.bl.map some ++ [some (.arr 1 (t ++ hiB n).size (bsF (t ++ hiB n)))]⟩
theorem stepN {n : Nat} {t : ByteArray} (hp : preN (n, t)) (h : 128 ≤ n) : ((n : Int).fdiv ((2 : Int) ^ min (Int.toNat (7 : Int)) (64 : Nat))) = ((n / 128 : Nat) : Int) ∧ (t ++ oneB (n % 128 + 128)).size = t.size + 1 ∧ t.size + 1 ≤ 1000000100 ∧
    preN (n / 128, t ++ oneB (n % 128 + 128)) ∧ (t ++ oneB (n % 128 + 128)) ++ hiB (n / 128) = t ++ hiB n ∧
    ∀ j, j < t.size + 1 → (bif decide (j < t.size) then sbyte t ((0 : Nat) + j) else bif ((0 : Nat) + (j - t.size)).beq (0 : Nat) then bitI BinOp.or IntKind.u8 (IntKind.u8.wrap (n : Int)) (128 : Int) else (0 : Int)) = sbyte (t ++ oneB (n % 128 + 128)) j := by
  have hge : ¬ n < 128 := by omega
  have e1 := hiB_ge hge
  have hp1 := hp.1
  have hp2 := hp.2
  simp only [e1, ByteArray.size_append, oneB_size] at hp2
  refine ⟨?_, by simp, by omega, ⟨?_, ?_⟩, ?_, fun j hj => ?_⟩
  · show (n : Int).fdiv 128 = _
    rw [Int.fdiv_eq_ediv_of_nonneg _ (by decide)]
    omega
  · show n / 128 ≤ _
    have : n / 128 ≤ n := Nat.div_le_self _ _
    simp only at hp1
    omega
  · simp only [ByteArray.size_append, oneB_size]; omega
  · rw [e1, ByteArray.append_assoc]
  · have hv : bitI BinOp.or IntKind.u8 (IntKind.u8.wrap (n : Int)) (128 : Int) = ((n % 128 + 128 : Nat) : Int) := by
      rw [wrapU8, or128 _ (by omega) (by omega)]
      omega
    rw [hv, push_eq (by omega) (by omega) hj, Int.toNat_natCast]
theorem loopN_ok (a : BA) : ∀ x : Nat × ByteArray, preN x → LoopOK Try.prog Γb a.bl.length 30 loopN (LSpec.at [1, 6] [(1, 5)] (SN a x.1 x.2) (ON a x.1 x.2)) := by
  refine loop_at (S := fun x : Nat × ByteArray => SN a x.1 x.2) (O := fun x => ON a x.1 x.2) (k := 0) (fun x => x.1) fun x hp => ⟨[], Lno, false, noLoops (by kernel_rfl), ?_⟩
  obtain ⟨n, t⟩ := x
  have fin : ¬ 128 ≤ n → hiB n = ⟨#[]⟩ ∧ loN n = n := fun h => ⟨hiB_lt (by omega), loN_lt (by omega)⟩
  have hd : (128 : Int) ≤ (n : Int) ↔ 128 ≤ n := by omega
  cases a with
  | hs b =>
    show (roundE (P := Try.prog) (Γ := Γb) [] Lno false 1 0 loopN [1, 6] [(1, 5)] 30 [.v (.int .i64 (n : Int)), .hs 1 0 t.size] [some (.arr 1 b.size (bsF b)), some (.arr 1 t.size (bsF t))]).sat _
    rw [roundN1]
    refine ⟨fun hc => ?_, fun hc => ?_⟩
    · have h := hd.1 (of_decide_eq_true hc)
      obtain ⟨s1, s2, s3, s4, s5, s6⟩ := stepN hp h
      refine ⟨room' (by omega), rfl, (n / 128, t ++ oneB (n % 128 + 128)), ?_, ?_, s4, ?_, ?_⟩
      · rw [s1]; exact ⟨.refl _, .of_eq (by rw [s2]; rfl), trivial⟩
      · exact ⟨.refl _, .arr s2.symm (fun j hj => by show mixL _ _ (mixL _ _ [AV.v (Value.int IntKind.u8 0)]) = _; rw [mixU, mixU, s6 j hj]; rfl) (fun _ => rfl), trivial⟩
      · simp only [ON]; rw [show loN (n / 128) = loN n from (loN_ge (by omega)).symm, s5]
      · show n / 128 < n; omega
    · have h := mt hd.2 (of_decide_eq_false hc)
      obtain ⟨f1, f2⟩ := fin h
      refine ⟨rfl, ?_, ?_⟩
      · simp only [ON, f1, f2, append_empty]; exact LeL.refl _
      · simp only [ON, f1, append_empty]; exact LeH.refl _
  | nil =>
    show (roundE (P := Try.prog) (Γ := Γb) [] Lno false 0 0 loopN [1, 6] [(1, 5)] 30 [.v (.int .i64 (n : Int)), .hs 0 0 t.size] [some (.arr 1 t.size (bsF t))]).sat _
    rw [roundN0]
    refine ⟨fun hc => ?_, fun hc => ?_⟩
    · have h := hd.1 (of_decide_eq_true hc)
      obtain ⟨s1, s2, s3, s4, s5, s6⟩ := stepN hp h
      refine ⟨room' (by omega), rfl, (n / 128, t ++ oneB (n % 128 + 128)), ?_, ?_, s4, ?_, ?_⟩
      · rw [s1]; exact ⟨.refl _, .of_eq (by rw [s2]; rfl), trivial⟩
      · exact ⟨.arr s2.symm (fun j hj => by show mixL _ _ (mixL _ _ [AV.v (Value.int IntKind.u8 0)]) = _; rw [mixU, mixU, s6 j hj]; rfl) (fun _ => rfl), trivial⟩
      · simp only [ON]; rw [show loN (n / 128) = loN n from (loN_ge (by omega)).symm, s5]
      · show n / 128 < n; omega
    · have h := mt hd.2 (of_decide_eq_false hc)
      obtain ⟨f1, f2⟩ := fin h
      refine ⟨rfl, ?_, ?_⟩
      · simp only [ON, f1, f2, append_empty]; exact LeL.refl _
      · simp only [ON, f1, append_empty]; exact LeH.refl _
  | sl b =>
    show (roundE (P := Try.prog) (Γ := Γb) [] Lno false 0 0 loopN [1, 6] [(1, 5)] 30 [.v (.int .i64 (n : Int)), .hs 0 0 t.size] [some (.arr 1 t.size (bsF t))]).sat _
    rw [roundN0]
    refine ⟨fun hc => ?_, fun hc => ?_⟩
    · have h := hd.1 (of_decide_eq_true hc)
      obtain ⟨s1, s2, s3, s4, s5, s6⟩ := stepN hp h
      refine ⟨room' (by omega), rfl, (n / 128, t ++ oneB (n % 128 + 128)), ?_, ?_, s4, ?_, ?_⟩
      · rw [s1]; exact ⟨.refl _, .of_eq (by rw [s2]; rfl), trivial⟩
      · exact ⟨.arr s2.symm (fun j hj => by show mixL _ _ (mixL _ _ [AV.v (Value.int IntKind.u8 0)]) = _; rw [mixU, mixU, s6 j hj]; rfl) (fun _ => rfl), trivial⟩
      · simp only [ON]; rw [show loN (n / 128) = loN n from (loN_ge (by omega)).symm, s5]
      · show n / 128 < n; omega
    · have h := mt hd.2 (of_decide_eq_false hc)
      obtain ⟨f1, f2⟩ := fin h
      refine ⟨rfl, ?_, ?_⟩
      · simp only [ON, f1, f2, append_empty]; exact LeL.refl _
      · simp only [ON, f1, append_empty]; exact LeH.refl _
noncomputable def LN (a : BA) (n : Nat) (t : ByteArray) : Nat → LSpec := fun _ => LSpec.at [1, 6] [(1, 5)] (SN a n t) (ON a n t)
theorem runNn (n : Nat) (h : BA.nil.ok) : bodyE (P := Try.prog) (Γ := Γb) [CT.at 95 (ansClone .nil h)] (LN .nil n ⟨#[]⟩) false 30 [.tmp 4, .tmp 5] (bodyOf Try.f121) [.v (.slice none 0 0), .v (.int .i64 (n : Int))] [] =
  Tree.br (bif decide ((↑n : Int) < (0 : Int)) then true else decide ((4611686018427387904 : Int) < (↑n : Int))) (Tree.leaf (Ans.mk (AV.tup [AV.v (Value.slice none (0 : Nat) (0 : Nat)), AV.v
    (Value.int IntKind.i64 (10 : Int))]) [])) (Tree.chk (cl (LeL [AV.v (Value.slice none (0 : Nat) (0 : Nat))] [AV.v (Value.slice none (0 : Nat) (0 : Nat))] ∧ LeH [] [])) (Tree.chk (cl (LeL
    [AV.v (Value.int IntKind.i64 (↑n : Int)), AV.hs (0 : Nat) (0 : Nat) (0 : Nat)] [AV.v (Value.int IntKind.i64 (↑n : Int)), AV.hs (0 : Nat) (0 : Nat) (0 : Nat)] ∧ LeH [some (Blk.arr (1 :
    Nat) (0 : Nat) fun x => [AV.v (Value.int IntKind.u8 (0 : Int))])] [some (Blk.arr (1 : Nat) (0 : Nat) fun j => [AV.v (Value.int IntKind.u8 (sbyte (ByteArray.mk #[]) j))])])) (Tree.chk
    (roomOk (1 : Nat) (ByteArray.size (ByteArray.mk #[] ++ hiB n) + (1 : Nat))) (Tree.leaf (Ans.mk (AV.tup [AV.hs (0 : Nat) (0 : Nat) (ByteArray.size (ByteArray.mk #[] ++ hiB n) + (1 :
    Nat)), AV.v (Value.int IntKind.i64 (0 : Int))]) [some (Blk.arr (1 : Nat) (ByteArray.size (ByteArray.mk #[] ++ hiB n) + (1 : Nat)) fun j => mixL (decide (j < ByteArray.size (ByteArray.mk
    #[] ++ hiB n))) [AV.v (Value.int IntKind.u8 (sbyte (ByteArray.mk #[] ++ hiB n) ((0 : Nat) + j)))] (chain [AV.v (Value.int IntKind.u8 (0 : Int))] (0 : Nat) [[AV.v (Value.int IntKind.u8
    (IntKind.wrap IntKind.u8 (↑(loN n) : Int)))]] ((0 : Nat) + (j - ByteArray.size (ByteArray.mk #[] ++ hiB n)))))]))))) := by kernel_rfl
theorem runNs (t : ByteArray) (n : Nat) (h : (BA.sl t).ok) : bodyE (P := Try.prog) (Γ := Γb) [CT.at 95 (ansClone (.sl t) h)] (LN (.sl t) n t) false 30 [.tmp 4, .tmp 5] (bodyOf Try.f121) [.sl 1 t.size (bsF t), .v (.int .i64 (n : Int))] [] =
  Tree.br (bif decide ((↑n : Int) < (0 : Int)) then true else decide ((4611686018427387904 : Int) < (↑n : Int))) (Tree.leaf (Ans.mk (AV.tup [AV.v (Value.slice none (0 : Nat) (0 : Nat)), AV.v
    (Value.int IntKind.i64 (10 : Int))]) [])) (Tree.chk (cl (LeL [AV.sl (1 : Nat) (ByteArray.size t) fun j => [AV.v (Value.int IntKind.u8 (sbyte t j))]] [AV.sl (1 : Nat) (ByteArray.size t)
    fun j => [AV.v (Value.int IntKind.u8 (sbyte t j))]] ∧ LeH [] [])) (Tree.chk (cl (LeL [AV.v (Value.int IntKind.i64 (↑n : Int)), AV.hs (0 : Nat) (0 : Nat) (ByteArray.size t)] [AV.v
    (Value.int IntKind.i64 (↑n : Int)), AV.hs (0 : Nat) (0 : Nat) (ByteArray.size t)] ∧ LeH [some (Blk.arr (1 : Nat) (ByteArray.size t) fun j => [AV.v (Value.int IntKind.u8 (sbyte t j))])]
    [some (Blk.arr (1 : Nat) (ByteArray.size t) fun j => [AV.v (Value.int IntKind.u8 (sbyte t j))])])) (Tree.chk (roomOk (1 : Nat) (ByteArray.size (t ++ hiB n) + (1 : Nat))) (Tree.leaf
    (Ans.mk (AV.tup [AV.hs (0 : Nat) (0 : Nat) (ByteArray.size (t ++ hiB n) + (1 : Nat)), AV.v (Value.int IntKind.i64 (0 : Int))]) [some (Blk.arr (1 : Nat) (ByteArray.size (t ++ hiB n) + (1
    : Nat)) fun j => mixL (decide (j < ByteArray.size (t ++ hiB n))) [AV.v (Value.int IntKind.u8 (sbyte (t ++ hiB n) ((0 : Nat) + j)))] (chain [AV.v (Value.int IntKind.u8 (0 : Int))] (0 :
    Nat) [[AV.v (Value.int IntKind.u8 (IntKind.wrap IntKind.u8 (↑(loN n) : Int)))]] ((0 : Nat) + (j - ByteArray.size (t ++ hiB n)))))]))))) := by kernel_rfl
theorem runNh (t : ByteArray) (n : Nat) (h : (BA.hs t).ok) : bodyE (P := Try.prog) (Γ := Γb) [CT.at 95 (ansClone (.hs t) h)] (LN (.hs t) n t) false 30 [.tmp 4, .tmp 5] (bodyOf Try.f121) [.hs 0 0 t.size, .v (.int .i64 (n : Int))] [.arr 1 t.size (bsF t)] =
  Tree.br (bif decide ((↑n : Int) < (0 : Int)) then true else decide ((4611686018427387904 : Int) < (↑n : Int))) (Tree.leaf (Ans.mk (AV.tup [AV.v (Value.slice none (0 : Nat) (0 : Nat)), AV.v
    (Value.int IntKind.i64 (10 : Int))]) [some (Blk.arr (1 : Nat) (ByteArray.size t) fun j => [AV.v (Value.int IntKind.u8 (sbyte t j))])])) (Tree.chk (cl (LeL [AV.hs (0 : Nat) (0 : Nat)
    (ByteArray.size t)] [AV.hs (0 : Nat) (0 : Nat) (ByteArray.size t)] ∧ LeH [some (Blk.arr (1 : Nat) (ByteArray.size t) fun j => [AV.v (Value.int IntKind.u8 (sbyte t j))])] [some (Blk.arr
    (1 : Nat) (ByteArray.size t) fun j => [AV.v (Value.int IntKind.u8 (sbyte t j))])])) (Tree.chk (cl (LeL [AV.v (Value.int IntKind.i64 (↑n : Int)), AV.hs (1 : Nat) (0 : Nat) (ByteArray.size
    t)] [AV.v (Value.int IntKind.i64 (↑n : Int)), AV.hs (1 : Nat) (0 : Nat) (ByteArray.size t)] ∧ LeH [some (Blk.arr (1 : Nat) (ByteArray.size t) fun j => [AV.v (Value.int IntKind.u8 (sbyte
    t j))]), some (Blk.arr (1 : Nat) (ByteArray.size t) fun j => [AV.v (Value.int IntKind.u8 (sbyte t j))])] [some (Blk.arr (1 : Nat) (ByteArray.size t) fun j => [AV.v (Value.int IntKind.u8
    (sbyte t j))]), some (Blk.arr (1 : Nat) (ByteArray.size t) fun j => [AV.v (Value.int IntKind.u8 (sbyte t j))])])) (Tree.chk (roomOk (1 : Nat) (ByteArray.size (t ++ hiB n) + (1 : Nat)))
    (Tree.leaf (Ans.mk (AV.tup [AV.hs (1 : Nat) (0 : Nat) (ByteArray.size (t ++ hiB n) + (1 : Nat)), AV.v (Value.int IntKind.i64 (0 : Int))]) [some (Blk.arr (1 : Nat) (ByteArray.size t) fun
    j => [AV.v (Value.int IntKind.u8 (sbyte t j))]), some (Blk.arr (1 : Nat) (ByteArray.size (t ++ hiB n) + (1 : Nat)) fun j => mixL (decide (j < ByteArray.size (t ++ hiB n))) [AV.v
    (Value.int IntKind.u8 (sbyte (t ++ hiB n) ((0 : Nat) + j)))] (chain [AV.v (Value.int IntKind.u8 (0 : Int))] (0 : Nat) [[AV.v (Value.int IntKind.u8 (IntKind.wrap IntKind.u8 (↑(loN n) :
    Int)))]] ((0 : Nat) + (j - ByteArray.size (t ++ hiB n)))))]))))) := by kernel_rfl
theorem runXn (n : Int) (h : BA.nil.ok) : bodyE (P := Try.prog) (Γ := Γb) [CT.at 95 (ansClone .nil h)] Lno false 30 [.tmp 4, .tmp 5] (bodyOf Try.f121) [.v (.slice none 0 0), .v (.int .i64 n)] [] =
  Tree.br (bif decide (n < (0 : Int)) then true else decide ((4611686018427387904 : Int) < n)) (Tree.leaf (Ans.mk (AV.tup [AV.v (Value.slice none (0 : Nat) (0 : Nat)), AV.v (Value.int
    IntKind.i64 (10 : Int))]) [])) (Tree.chk (cl (LeL [AV.v (Value.slice none (0 : Nat) (0 : Nat))] [AV.v (Value.slice none (0 : Nat) (0 : Nat))] ∧ LeH [] [])) Tree.fail) := by kernel_rfl
theorem runXs (t : ByteArray) (n : Int) (h : (BA.sl t).ok) : bodyE (P := Try.prog) (Γ := Γb) [CT.at 95 (ansClone (.sl t) h)] Lno false 30 [.tmp 4, .tmp 5] (bodyOf Try.f121) [.sl 1 t.size (bsF t), .v (.int .i64 n)] [] =
  Tree.br (bif decide (n < (0 : Int)) then true else decide ((4611686018427387904 : Int) < n)) (Tree.leaf (Ans.mk (AV.tup [AV.v (Value.slice none (0 : Nat) (0 : Nat)), AV.v (Value.int
    IntKind.i64 (10 : Int))]) [])) (Tree.chk (cl (LeL [AV.sl (1 : Nat) (ByteArray.size t) fun j => [AV.v (Value.int IntKind.u8 (sbyte t j))]] [AV.sl (1 : Nat) (ByteArray.size t) fun j =>
    [AV.v (Value.int IntKind.u8 (sbyte t j))]] ∧ LeH [] [])) Tree.fail) := by kernel_rfl
theorem runXh (t : ByteArray) (n : Int) (h : (BA.hs t).ok) : bodyE (P := Try.prog) (Γ := Γb) [CT.at 95 (ansClone (.hs t) h)] Lno false 30 [.tmp 4, .tmp 5] (bodyOf Try.f121) [.hs 0 0 t.size, .v (.int .i64 n)] [.arr 1 t.size (bsF t)] =
  Tree.br (bif decide (n < (0 : Int)) then true else decide ((4611686018427387904 : Int) < n)) (Tree.leaf (Ans.mk (AV.tup [AV.v (Value.slice none (0 : Nat) (0 : Nat)), AV.v (Value.int
    IntKind.i64 (10 : Int))]) [some (Blk.arr (1 : Nat) (ByteArray.size t) fun j => [AV.v (Value.int IntKind.u8 (sbyte t j))])])) (Tree.chk (cl (LeL [AV.hs (0 : Nat) (0 : Nat) (ByteArray.size
    t)] [AV.hs (0 : Nat) (0 : Nat) (ByteArray.size t)] ∧ LeH [some (Blk.arr (1 : Nat) (ByteArray.size t) fun j => [AV.v (Value.int IntKind.u8 (sbyte t j))])] [some (Blk.arr (1 : Nat)
    (ByteArray.size t) fun j => [AV.v (Value.int IntKind.u8 (sbyte t j))])])) Tree.fail) := by kernel_rfl
theorem BA.ok_small : ∀ {a : BA}, a.ok → small a.t
  | .nil, _ => by unfold small BA.t; decide
  | .sl _, h => h.1
  | .hs _, h => h.1
theorem numTail (t : ByteArray) (n : Nat) : (t ++ hiB n).size + 1 = (t ++ numB n).size ∧ ∀ j, j < (t ++ hiB n).size + 1 →
    (bif decide (j < (t ++ hiB n).size) then sbyte (t ++ hiB n) ((0 : Nat) + j) else bif ((0 : Nat) + (j - (t ++ hiB n).size)).beq (0 : Nat) then IntKind.u8.wrap (loN n : Int) else (0 : Int)) = sbyte (t ++ numB n) j := by
  have hl := loN_small n
  refine ⟨by simp [numB]; omega, fun j hj => ?_⟩
  have e : IntKind.u8.wrap (loN n : Int) = ((loN n : Nat) : Int) := by rw [wrapU8]; omega
  rw [e, push_eq (by omega) (by omega) hj, Int.toNat_natCast, numB, ByteArray.append_assoc]
theorem pre_of {t : ByteArray} {n : Nat} (h : small t) (hn : n ≤ 4611686018427387904) : preN (n, t) := by
  have := numB_size hn
  unfold numB at this
  simp only [ByteArray.size_append, oneB_size] at this
  unfold small at h
  refine ⟨hn, ?_⟩
  show t.size + (hiB n).size ≤ _
  omega
theorem notBad {n : Nat} (hn : n ≤ 4611686018427387904) : (bif decide ((n : Int) < (0 : Int)) then true else decide ((4611686018427387904 : Int) < (n : Int))) = false := by
  rw [decide_eq_false (by omega), decide_eq_false (by omega)]; rfl
theorem isBad {n : Int} (hn : n < 0 ∨ 4611686018427387904 < n) : (bif decide (n < (0 : Int)) then true else decide ((4611686018427387904 : Int) < n)) = true := by
  by_cases h : n < 0
  · rw [decide_eq_true h]; rfl
  · rw [decide_eq_false h, decide_eq_true (by omega)]; rfl
theorem roomN {t : ByteArray} {n : Nat} (h : small t) (hn : n ≤ 4611686018427387904) : roomOk 1 ((t ++ hiB n).size + 1) = true := by
  have := (pre_of h hn).2
  simp only at this
  exact room' (by simp only [ByteArray.size_append]; omega)
theorem ansNum : ∀ (a : BA) (n : Nat), a.ok → n ≤ 4611686018427387904 → Answers Try.prog Γb 121 [a.av, .v (.int .i64 (n : Int))] a.bl (.tup [.hs a.n 0 (a.t ++ numB n).size, .v (.int .i64 0)]) (a.bl.map some) [.arr 1 (a.t ++ numB n).size (bsF (a.t ++ numB n))]
  | .nil, n, h, hn => answers (fn := Try.f121) (c := bodyOf Try.f121) (ntmps := 30) (results := [.tmp 4, .tmp 5]) [CT.at 95 (ansClone .nil h)] (LN .nil n ⟨#[]⟩) false Try.func121 (by kernel_rfl) (by kernel_rfl) (by kernel_rfl) (by kernel_rfl) (by simp) rfl
    (oneLoop (b := loopN) (by kernel_rfl) (loopN_ok .nil (n, ⟨#[]⟩) (pre_of (BA.ok_small h) hn)))
    (Meets.of (runNn n h) ⟨fun hc => by rw [notBad hn] at hc; simp at hc, fun _ => ⟨cl_iff.2 ⟨LeL.refl _, trivial⟩, cl_iff.2 ⟨LeL.refl _, .arr rfl (fun j hj => absurd hj (Nat.not_lt_zero _)) (fun _ => rfl), trivial⟩, roomN (BA.ok_small h) hn, by
      obtain ⟨e1, e2⟩ := numTail ⟨#[]⟩ n
      exact ⟨.of_eq (by rw [e1]; rfl), .arr e1 (fun j hj => by show mixL _ _ (mixL _ _ [AV.v (Value.int IntKind.u8 0)]) = _; rw [mixU, mixU, e2 j hj]; rfl) (fun _ => rfl), trivial⟩⟩⟩)
  | .sl t, n, h, hn => answers (fn := Try.f121) (c := bodyOf Try.f121) (ntmps := 30) (results := [.tmp 4, .tmp 5]) [CT.at 95 (ansClone (.sl t) h)] (LN (.sl t) n t) false Try.func121 (by kernel_rfl) (by kernel_rfl) (by kernel_rfl) (by kernel_rfl) (by simp) rfl
    (oneLoop (b := loopN) (by kernel_rfl) (loopN_ok (.sl t) (n, t) (pre_of (BA.ok_small h) hn)))
    (Meets.of (runNs t n h) ⟨fun hc => by rw [notBad hn] at hc; simp at hc, fun _ => ⟨cl_iff.2 ⟨LeL.refl _, LeH.refl _⟩, cl_iff.2 ⟨LeL.refl _, LeH.refl _⟩, roomN (BA.ok_small h) hn, by
      obtain ⟨e1, e2⟩ := numTail t n
      exact ⟨.of_eq (by rw [e1]; rfl), .arr e1 (fun j hj => by show mixL _ _ (mixL _ _ [AV.v (Value.int IntKind.u8 0)]) = _; rw [mixU, mixU, e2 j hj]; rfl) (fun _ => rfl), trivial⟩⟩⟩)
  | .hs t, n, h, hn => answers (fn := Try.f121) (c := bodyOf Try.f121) (ntmps := 30) (results := [.tmp 4, .tmp 5]) [CT.at 95 (ansClone (.hs t) h)] (LN (.hs t) n t) false Try.func121 (by kernel_rfl) (by kernel_rfl) (by kernel_rfl) (by kernel_rfl) (by simp) rfl
    (oneLoop (b := loopN) (by kernel_rfl) (loopN_ok (.hs t) (n, t) (pre_of (BA.ok_small h) hn)))
    (Meets.of (runNh t n h) ⟨fun hc => by rw [notBad hn] at hc; simp at hc, fun _ => ⟨cl_iff.2 ⟨LeL.refl _, LeH.refl _⟩, cl_iff.2 ⟨LeL.refl _, LeH.refl _⟩, roomN (BA.ok_small h) hn, by
      obtain ⟨e1, e2⟩ := numTail t n
      exact ⟨.of_eq (by rw [e1]; rfl), .refl _, .arr e1 (fun j hj => by show mixL _ _ (mixL _ _ [AV.v (Value.int IntKind.u8 0)]) = _; rw [mixU, mixU, e2 j hj]; rfl) (fun _ => rfl), trivial⟩⟩⟩)
theorem ansBad : ∀ (a : BA) (n : Int), a.ok → n < 0 ∨ 4611686018427387904 < n → Answers Try.prog Γb 121 [a.av, .v (.int .i64 n)] a.bl (.tup [.v (.slice none 0 0), .v (.int .i64 10)]) (a.bl.map some) []
  | .nil, n, h, hn => answers (fn := Try.f121) (c := bodyOf Try.f121) (ntmps := 30) (results := [.tmp 4, .tmp 5]) [CT.at 95 (ansClone .nil h)] Lno false Try.func121 (by kernel_rfl) (by kernel_rfl) (by kernel_rfl) (by kernel_rfl) (by simp) rfl
    (fun _ _ _ => fail_ok) (Meets.of (runXn n h) ⟨fun _ => ⟨.refl _, trivial⟩, fun hc => by rw [isBad hn] at hc; simp at hc⟩)
  | .sl t, n, h, hn => answers (fn := Try.f121) (c := bodyOf Try.f121) (ntmps := 30) (results := [.tmp 4, .tmp 5]) [CT.at 95 (ansClone (.sl t) h)] Lno false Try.func121 (by kernel_rfl) (by kernel_rfl) (by kernel_rfl) (by kernel_rfl) (by simp) rfl
    (fun _ _ _ => fail_ok) (Meets.of (runXs t n h) ⟨fun _ => ⟨.refl _, trivial⟩, fun hc => by rw [isBad hn] at hc; simp at hc⟩)
  | .hs t, n, h, hn => answers (fn := Try.f121) (c := bodyOf Try.f121) (ntmps := 30) (results := [.tmp 4, .tmp 5]) [CT.at 95 (ansClone (.hs t) h)] Lno false Try.func121 (by kernel_rfl) (by kernel_rfl) (by kernel_rfl) (by kernel_rfl) (by simp) rfl
    (fun _ _ _ => fail_ok) (Meets.of (runXh t n h) ⟨fun _ => ⟨.refl _, .refl _, trivial⟩, fun hc => by rw [isBad hn] at hc; simp at hc⟩)
end Go.Eng.SB

namespace Go.Eng.SB
open Go Go.Eng Go.Eng.M Go.Eng.RD Go.Proofs
theorem fO_ok {t : ByteArray} {off : Nat} {e x : Int} (h : okS t off e) (hx : ¬ x = 0) : okS t (fO t.size off e x) (fE e x) := by
  unfold fO fE
  by_cases he : e = 0 ∧ ¬ x = 0
  · rw [if_pos he, if_pos he]; exact ⟨Nat.le_refl _, .inr rfl⟩
  · rw [if_neg he, if_neg he]; exact h
theorem runCcap (cap : Nat) : bodyE (P := Try.prog) (Γ := Γb) [] Lno false 8 [.tmp 2] (bodyOf Try.f95) [.v (.slice none 0 cap)] [] =
  Tree.leaf (Ans.mk (AV.v (Value.slice none (0 : Nat) (0 : Nat))) []) := by kernel_rfl
theorem runCmk  : bodyE (P := Try.prog) (Γ := Γb) [] Lno false 8 [.tmp 2] (bodyOf Try.f95) [.sl 1 0 fun _ => [.v (.tuple #[])]] [] =
  Tree.chk true (Tree.chk true (Tree.leaf (Ans.mk (AV.hs (0 : Nat) (0 : Nat) (0 : Nat)) [some (Blk.arr (1 : Nat) (0 : Nat) fun j => mixL (decide (j < (0 : Nat))) (chain [AV.v (Value.int
    IntKind.u8 (0 : Int))] (0 : Nat) [] ((0 : Nat) + j)) [AV.v (Value.tuple #[])])]))) := by kernel_rfl
theorem ansClE {g : Nat → List AV} : Answers Try.prog Γb 95 [.sl 1 0 g] [] (.hs 0 0 0) [] [.arr 1 0 fun _ => [.v (.int .u8 0)]] := by
  refine Answers.nilSl (sz := 1) (z := [.v (.int .u8 0)]) rfl (M := [.v (.tuple #[])]) rfl (fun cap => ?_) ?_
  · refine answers (fn := Try.f95) (c := bodyOf Try.f95) (ntmps := 8) (results := [.tmp 2]) [] (Lno) false Try.func95 (by kernel_rfl) (by kernel_rfl) (by kernel_rfl) (by kernel_rfl) (by simp) rfl (failOK fun _ _ _ => rfl) <| Meets.of (runCcap cap) <| ?_
    repeat' (first | refine wC (by first | omega | (simp only [W1, cond_true, cond_false]; first | done | omega)) ?_ | refine wT (by first | omega | (simp only [W1, cond_true, cond_false]; first | done | omega)) ?_ | refine wF (by intro _h; first | omega | (simp only [W1, cond_true, cond_false] at _h; first | done | omega)) ?_ | (refine wS ?_ ?_ <;> intro _h <;> simp only [W1, cond_true, cond_false] at _h))
    all_goals simp only [W1, W2, owesN, owesX, owesR, cond_true, cond_false]
    repeat' (first | apply And.intro | intro _hc)
    all_goals first | exact AV.le_refl _ | exact AV.le_any _ | exact OLe.refl _ | exact OLe.none _ | exact LeH.refl _ | exact LeL.refl _ | exact AV.le.bs _ | exact AV.le.sb _ | omega | contradiction
  · refine answers (fn := Try.f95) (c := bodyOf Try.f95) (ntmps := 8) (results := [.tmp 2]) [] (Lno) false Try.func95 (by kernel_rfl) (by kernel_rfl) (by kernel_rfl) (by kernel_rfl) (by simp) rfl (failOK fun _ _ _ => rfl) <| Meets.of (runCmk) <| ?_
    refine ⟨rfl, rfl, .refl _, OLe.arr rfl (fun e he => absurd he (Nat.not_lt_zero e)) (fun _ => rfl), trivial⟩
theorem runNwE (g : Nat → List AV) : bodyE (P := Try.prog) (Γ := Γb) [CT.at 95 (ansClE (g := g))] Lno false 7 [.tmp 2] (bodyOf Try.f42) [.sl 1 0 g] [] =
  Tree.chk (cl (LeL [AV.sl (1 : Nat) (0 : Nat) g] [AV.sl (1 : Nat) (0 : Nat) g] ∧ LeH [] [])) (Tree.leaf (Ans.mk (AV.ptr (0 : Nat) (0 : Nat)) [some (Blk.row [AV.hs (1 : Nat) (0 : Nat) (0 :
    Nat), AV.v (Value.int IntKind.i64 (0 : Int))]), some (Blk.arr (1 : Nat) (0 : Nat) fun x => [AV.v (Value.int IntKind.u8 (0 : Int))])])) := by kernel_rfl
theorem runNwH (t : ByteArray) (h : (BA.hs t).ok) : bodyE (P := Try.prog) (Γ := Γb) [CT.at 95 (ansClone (.hs t) h)] Lno false 7 [.tmp 2] (bodyOf Try.f42) [.hs 0 0 t.size] [.arr 1 t.size (bsF t)] =
  Tree.chk (cl (LeL [AV.hs (0 : Nat) (0 : Nat) (ByteArray.size t)] [AV.hs (0 : Nat) (0 : Nat) (ByteArray.size t)] ∧ LeH [some (Blk.arr (1 : Nat) (ByteArray.size t) fun j => [AV.v (Value.int
    IntKind.u8 (sbyte t j))])] [some (Blk.arr (1 : Nat) (ByteArray.size t) fun j => [AV.v (Value.int IntKind.u8 (sbyte t j))])])) (Tree.leaf (Ans.mk (AV.ptr (1 : Nat) (0 : Nat)) [some
    (Blk.arr (1 : Nat) (ByteArray.size t) fun j => [AV.v (Value.int IntKind.u8 (sbyte t j))]), some (Blk.row [AV.hs (2 : Nat) (0 : Nat) (ByteArray.size t), AV.v (Value.int IntKind.i64 (0 :
    Int))]), some (Blk.arr (1 : Nat) (ByteArray.size t) fun j => [AV.v (Value.int IntKind.u8 (sbyte t j))])])) := by kernel_rfl
theorem ansNwE {g : Nat → List AV} : Answers Try.prog Γb 42 [.sl 1 0 g] [] (.ptr 0 0) [] (rdb ⟨#[]⟩ 0 0) := by
  refine answers (fn := Try.f42) (c := bodyOf Try.f42) (ntmps := 7) (results := [.tmp 2]) [CT.at 95 (ansClE (g := g))] (Lno) false Try.func42 (by kernel_rfl) (by kernel_rfl) (by kernel_rfl) (by kernel_rfl) (by simp) rfl (failOK fun _ _ _ => rfl) <| Meets.of (runNwE g) <| ?_
  repeat' (first | refine wC (by first | omega | (simp only [W1, cond_true, cond_false]; first | done | omega)) ?_ | refine wT (by first | omega | (simp only [W1, cond_true, cond_false]; first | done | omega)) ?_ | refine wF (by intro _h; first | omega | (simp only [W1, cond_true, cond_false] at _h; first | done | omega)) ?_ | (refine wS ?_ ?_ <;> intro _h <;> simp only [W1, cond_true, cond_false] at _h))
  all_goals simp only [W1, W2, owesN, owesX, owesR, cond_true, cond_false]
  repeat' (first | apply And.intro | intro _hc)
  all_goals first | exact OLe.arr rfl (fun e he => absurd he (Nat.not_lt_zero e)) (fun _ => rfl) | exact AV.le_refl _ | exact AV.le_any _ | exact OLe.refl _ | exact OLe.none _ | exact LeH.refl _ | exact LeL.refl _ | exact AV.le.bs _ | exact AV.le.sb _ | omega | contradiction
theorem ansNwH {t : ByteArray} (h : (BA.hs t).ok) : Answers Try.prog Γb 42 [.hs 0 0 t.size] [.arr 1 t.size (bsF t)] (.ptr 1 0) [some (.arr 1 t.size (bsF t))] [.row [.hs 2 0 t.size, .v (.int .i64 0)], .arr 1 t.size (bsF t)] := by
  refine answers (fn := Try.f42) (c := bodyOf Try.f42) (ntmps := 7) (results := [.tmp 2]) [CT.at 95 (ansClone (.hs t) h)] (Lno) false Try.func42 (by kernel_rfl) (by kernel_rfl) (by kernel_rfl) (by kernel_rfl) (by simp) rfl (failOK fun _ _ _ => rfl) <| Meets.of (runNwH t h) <| ?_
  repeat' (first | refine wC (by first | omega | (simp only [W1, cond_true, cond_false]; first | done | omega)) ?_ | refine wT (by first | omega | (simp only [W1, cond_true, cond_false]; first | done | omega)) ?_ | refine wF (by intro _h; first | omega | (simp only [W1, cond_true, cond_false] at _h; first | done | omega)) ?_ | (refine wS ?_ ?_ <;> intro _h <;> simp only [W1, cond_true, cond_false] at _h))
  all_goals simp only [W1, W2, owesN, owesX, owesR, cond_true, cond_false]
  repeat' (first | apply And.intro | intro _hc)
  all_goals first | exact AV.le_refl _ | exact AV.le_any _ | exact OLe.refl _ | exact OLe.none _ | exact LeH.refl _ | exact LeL.refl _ | exact AV.le.bs _ | exact AV.le.sb _ | omega | contradiction
end Go.Eng.SB

namespace Go.Eng.SB.B
open Go Go.Eng Go.Eng.SB Go.Lib Go.Proofs Go.Shelf Go.RowKit
def renB : Ren := ⟨fun k => match k with
  | 167 => 80
  | 169 => 81
  | 240 => 120
  | 276 => 143
  | k => k + 1000000, fun k => match k with
  | 0 => 0
  | 3 => 3
  | 4 => 4
  | 5 => 5
  | 9 => 9
  | 20 => 20
  | 37 => 33
  | 70 => 135
  | 72 => 137
  | 75 => 139
  | 80 => 141
  | 127 => 190
  | 164 => 211
  | k => k + 1000000, fun k => k⟩
theorem lays167 : Lays.n167 Try.prog renB where
  mixed := by kernel_rfl
  f167 := by kernel_rfl
  f240 := by kernel_rfl
  f276 := by kernel_rfl
  t0 := Try.underlying0
  a0 := Try.isAgg0
  z0 := Try.sizeOf0
  v0 := Try.zeroValue0
  t4 := Try.underlying4
  a4 := Try.isAgg4
  z4 := Try.sizeOf4
  v4 := Try.zeroValue4
  t5 := Try.underlying5
  a5 := Try.isAgg5
  z5 := Try.sizeOf5
  v5 := Try.zeroValue5
  t9 := Try.underlying9
  a9 := Try.isAgg9
  z9 := Try.sizeOf9
  v9 := Try.zeroValue9
  t20 := Try.underlying20
  a20 := Try.isAgg20
  z20 := Try.sizeOf20
  v20 := Try.zeroValue20
  t37 := Try.underlying33
  a37 := Try.isAgg33
  z37 := Try.sizeOf33
  v37 := Try.zeroValue33
  t70 := Try.underlying135
  a70 := Try.isAgg135
  z70 := Try.sizeOf135
  v70 := Try.zeroValue135
  t72 := Try.underlying137
  a72 := Try.isAgg137
  z72 := Try.sizeOf137
  v72 := Try.zeroValue137
  t75 := Try.underlying139
  a75 := Try.isAgg139
  z75 := Try.sizeOf139
  v75 := Try.zeroValue139
  t164 := Try.underlying211
  a164 := Try.isAgg211
  z164 := Try.sizeOf211
  v164 := Try.zeroValue211
theorem lays169 : Lays.n169 Try.prog renB where
  mixed := by kernel_rfl
  f169 := by kernel_rfl
  t0 := Try.underlying0
  a0 := Try.isAgg0
  z0 := Try.sizeOf0
  v0 := Try.zeroValue0
  t3 := Try.underlying3
  a3 := Try.isAgg3
  z3 := Try.sizeOf3
  v3 := Try.zeroValue3
  t9 := Try.underlying9
  a9 := Try.isAgg9
  z9 := Try.sizeOf9
  v9 := Try.zeroValue9
  t37 := Try.underlying33
  a37 := Try.isAgg33
  z37 := Try.sizeOf33
  v37 := Try.zeroValue33
  t70 := Try.underlying135
  a70 := Try.isAgg135
  z70 := Try.sizeOf135
  v70 := Try.zeroValue135
  t72 := Try.underlying137
  a72 := Try.isAgg137
  z72 := Try.sizeOf137
  v72 := Try.zeroValue137
  t127 := Try.underlying190
  a127 := Try.isAgg190
  z127 := Try.sizeOf190
  v127 := Try.zeroValue190
theorem extraB : Builder.Extra Try.prog renB where
  sizeBuilder := by kernel_rfl
  liesBuilder := by kernel_rfl
  t5 := Try.underlying5
  a5 := Try.isAgg5
  z5 := Try.sizeOf5
  v5 := Try.zeroValue5
  infoByte := by kernel_rfl
  cellsByte := by kernel_rfl
  sizeByte := by kernel_rfl
  neB5 := by decide
theorem writeB (B b : Nat) (bs : List Value) (c : Int) (w : World) (h : IsBuilder 137 5 B b bs w) (hlen : bs.length + 1 ≤ 140737488355328) (hBw : B ≤ w.heap.size) :
    Calls Try.prog 80 #[.pointer (some ⟨b, 0, none⟩), .int .u8 c] w fun e w' => e = .returned .nilIface ∧ (BuilderAt 137 5 B b (.pointer (some ⟨b, 0, none⟩)) (bs ++ [.int .u8 c]) w' ∧ Below B w w') := Any.Builder_WriteByte lays167 extraB B b bs c w h hlen hBw
theorem textB (B b : Nat) (l : List UInt8) (w : World) (h : IsBuilder 137 5 B b (byteCells l) w) (hBw : B ≤ w.heap.size) :
    Calls Try.prog 81 #[.pointer (some ⟨b, 0, none⟩)] w fun e w' => e = .returned (.string ⟨l.toArray⟩) ∧ Below B w w' := Any.Builder_String_any lays169 extraB B b l w h hBw
end Go.Eng.SB.B

namespace Go.Eng.SB.B
open Go Go.Eng Go.Eng.SB Go.Lib Go.Proofs Go.Shelf Go.RowKit
def dr (c : UInt8) : List UInt8 := if c.toNat ≤ 1 then [1, c + 1] else [c]
def dress (l : List UInt8) : List UInt8 := l.flatMap dr
theorem dress_len (l : List UInt8) : (dress l).length ≤ 2 * l.length := by
  unfold dress
  induction l with
  | nil => simp
  | cons c l ih =>
    rw [List.flatMap_cons, List.length_append, List.length_cons]
    have : (dr c).length ≤ 2 := by unfold dr; split <;> simp
    omega
theorem dress_next {l : List UInt8} {k : Nat} {c : UInt8} (h : l[k]? = some c) : dress (l.take (k + 1)) = dress (l.take k) ++ dr c := by
  unfold dress
  rw [List.take_add_one, h, Option.toList_some, List.flatMap_append, List.flatMap_singleton]
theorem dr_one {c : UInt8} (h : c.toNat ≤ 1) : byteCells (dr c) = [.int .u8 1, .int .u8 ((c.toNat : Int) + 1)] := by
  unfold dr
  rw [if_pos h]
  have : (c + 1).toNat = c.toNat + 1 := by
    rw [UInt8.toNat_add]
    show (c.toNat + 1) % 256 = _
    omega
  show [Value.int .u8 ((1 : UInt8).toNat : Int), Value.int .u8 ((c + 1).toNat : Int)] = _
  rw [this]; rfl
theorem dr_two {c : UInt8} (h : ¬ c.toNat ≤ 1) : byteCells (dr c) = [.int .u8 (c.toNat : Int)] := by
  unfold dr
  rw [if_neg h]; rfl
set_option maxHeartbeats 4000000 in
set_option maxRecDepth 1000000 in
theorem dress_walk (s : ByteArray) (w : World) (hs : s.size ≤ 1000000000) :
    Calls Try.prog 22 #[.string s] w fun e w' => e = .returned (.string ⟨(dress s.data.toList).toArray⟩) ∧ Below w.heap.size w w' := by
  go_enter Try.func22, Try.ntmps22
  go_wp2
  go_loopw [8] (fun i wr => ∃ k : Nat, k ≤ s.size ∧ i = .int .i64 k ∧ IsBuilder 137 5 w.heap.size w.heap.size (byteCells (dress (s.data.toList.take k))) wr ∧ Below w.heap.size w wr) (fun i _ => s.size - (Lib.intOf i).toNat)
  case atStart => exact ⟨0, Nat.zero_le _, rfl, fresh_isBuilder 137 5 w, (Below.refl _ w).alloc (Nat.le_refl _) _⟩
  case round =>
    obtain ⟨k, hk, rfl, hI, hbw⟩ := hrel
    have hsz : w.heap.size ≤ wr.heap.size := hbw.size
    have hlen := dress_len (s.data.toList.take k)
    have hlk : (s.data.toList.take k).length ≤ k := by rw [List.length_take]; omega
    by_cases hp : k < s.size
    · have hb : s.data.toList[k]? = some (s[k]'hp) := by
        rw [Array.getElem?_toList]
        exact Array.getElem?_eq_getElem hp
      have hn := dress_next hb
      have hwr : ∀ c : UInt8, (s[k]'hp) = c → dress (s.data.toList.take (k + 1)) = dress (s.data.toList.take k) ++ dr c := fun c e => by rw [hn, e]
      clear hn hb
      by_cases h1 : (s[k]'hp).toNat ≤ 1
      · go_wp2_with (go_at_call 80; refine (writeB w.heap.size w.heap.size _ 1 _ hI (by rw [byteCells_length]; omega) hsz).mono ?_)
        rintro e w1 ⟨rfl, g1, b1⟩
        have hsz1 : w.heap.size ≤ w1.heap.size := Nat.le_trans hsz b1.size
        go_wp2_with (go_at_call 80; refine (writeB w.heap.size w.heap.size _ _ _ (Or.inr g1) (by rw [List.length_append, byteCells_length]; simp only [List.length_singleton]; omega) hsz1).mono ?_)
        rintro e w2 ⟨rfl, g2, b2⟩
        go_wp2
        go_roundw
        case rel =>
          refine ⟨k + 1, hp, by go_num, .inr ?_, hbw.trans (b1.trans b2)⟩
          rw [hwr _ rfl, byteCells_append, dr_one h1]
          simpa using g2
        case measure => simp [Lib.intOf]; omega
      · go_wp2_with (go_at_call 80; refine (writeB w.heap.size w.heap.size _ _ _ hI (by rw [byteCells_length]; omega) hsz).mono ?_)
        rintro e w2 ⟨rfl, g2, b2⟩
        go_wp2
        go_roundw
        case rel =>
          refine ⟨k + 1, hp, by go_num, .inr ?_, hbw.trans b2⟩
          rw [hwr _ rfl, byteCells_append, dr_two h1]
          exact g2
        case measure => simp [Lib.intOf]; omega
    · go_wp2_with (go_at_call 81; refine (textB w.heap.size w.heap.size _ _ hI hsz).mono ?_)
      rintro e w1 ⟨rfl, b1⟩
      go_wp2
      go_ret
      have hall : s.data.toList.take k = s.data.toList := by rw [show k = s.data.toList.length by rw [← Lib.size_eq]; omega, List.take_length]
      rw [hall]
      exact ⟨rfl, hbw.trans b1⟩
end Go.Eng.SB.B

namespace Go.Eng.SB.B
open Go Go.Eng Go.Eng.SB Go.Lib Go.Proofs Go.Shelf Go.RowKit
def sp : Bool → List UInt8 → Option (List UInt8)
  | t, [] => if t then none else some []
  | t, c :: l => if t = true ∧ (c.toNat = 1 ∨ c.toNat = 2) then (sp false l).map (fun r => (c - 1) :: r) else if t = true ∨ c.toNat = 0 then none else if c.toNat = 1 then sp true l else (sp false l).map (fun r => c :: r)
def stripV (s : ByteArray) : Value := match sp false s.data.toList with
  | some t => .tuple #[.string ⟨t.toArray⟩, .int .i64 0]
  | none => .tuple #[.string ⟨#[]⟩, .int .i64 180]
theorem sp_id (o : Option (List UInt8)) : o = o.map (fun r => [] ++ r) := by cases o <;> rfl
theorem map_app {a : List UInt8} {x : UInt8} {o : Option (List UInt8)} : (o.map (fun r => x :: r)).map (fun r => a ++ r) = o.map (fun r => (a ++ [x]) ++ r) := by
  cases o with
  | none => rfl
  | some r => simp
theorem strip_none {s : ByteArray} (h : sp false s.data.toList = none) : stripV s = .tuple #[.string ⟨#[]⟩, .int .i64 180] := by unfold stripV; rw [h]
theorem strip_some {s : ByteArray} {t : List UInt8} (h : sp false s.data.toList = some t) : stripV s = .tuple #[.string ⟨t.toArray⟩, .int .i64 0] := by unfold stripV; rw [h]
theorem u8_of {c : UInt8} {n : Nat} (hn : n < 256) (h : c.toNat = n) : c = UInt8.ofNat n := by
  apply UInt8.toNat_inj.1
  rw [h]
  exact (Nat.mod_eq_of_lt hn).symm
theorem bc_sub {c : UInt8} (h : c.toNat = 1) : byteCells [c - 1] = [Value.int .u8 0] := by
  have e : c = 1 := u8_of (by decide) h
  subst e; rfl
theorem bc_sub2 {c : UInt8} (h : c.toNat = 2) : byteCells [c - 1] = [Value.int .u8 1] := by
  have e : c = 2 := u8_of (by decide) h
  subst e; rfl
theorem bc_one {c : UInt8} (h : c.toNat = 2) : byteCells [c] = [Value.int .u8 2] := by
  have e : c = 2 := u8_of (by decide) h
  subst e; rfl
theorem sp_turn {c : UInt8} {l acc : List UInt8} (h : c.toNat = 1 ∨ c.toNat = 2) : (sp true (c :: l)).map (fun r => acc ++ r) = (sp false l).map (fun r => (acc ++ [c - 1]) ++ r) := by
  rw [sp, if_pos ⟨rfl, h⟩, map_app]
theorem sp_start {c : UInt8} {l acc : List UInt8} (h : c.toNat = 1) : (sp false (c :: l)).map (fun r => acc ++ r) = (sp true l).map (fun r => acc ++ r) := by
  rw [sp, if_neg (by simp), if_neg (by simp; omega), if_pos h]
theorem sp_plain {c : UInt8} {l acc : List UInt8} (h0 : ¬ c.toNat = 0) (h1 : ¬ c.toNat = 1) : (sp false (c :: l)).map (fun r => acc ++ r) = (sp false l).map (fun r => (acc ++ [c]) ++ r) := by
  rw [sp, if_neg (by simp), if_neg (by simp; exact h0), if_neg h1, map_app]
theorem sp_bad {c : UInt8} {l : List UInt8} {b : Bool} (h : c.toNat = 0 ∨ (b = true ∧ ¬ c.toNat = 1 ∧ ¬ c.toNat = 2)) : sp b (c :: l) = none := by
  rw [sp, if_neg (by rintro ⟨_, h1 | h1⟩ <;> omega), if_pos (by rcases h with h | h; exact .inr h; exact .inl h.1)]
set_option maxHeartbeats 8000000 in
set_option maxRecDepth 1000000 in
theorem strip_walk (s : ByteArray) (w : World) (hs : s.size ≤ 1000000000) :
    Calls Try.prog 24 #[.string s] w fun e w' => e = .returned (stripV s) ∧ Below w.heap.size w w' := by
  go_enter Try.func24, Try.ntmps24
  go_wp2
  go_loopw [5, 10] (fun t i wr => ∃ (k : Nat) (b : Bool) (acc : List UInt8), k ≤ s.size ∧ t = .bool b ∧ i = .int .i64 k ∧ IsBuilder 137 5 w.heap.size w.heap.size (byteCells acc) wr ∧ Below w.heap.size w wr ∧ acc.length ≤ k ∧ Hid (sp false s.data.toList = (sp b (s.data.toList.drop k)).map (fun r => acc ++ r))) (fun _ i _ => s.size - (Lib.intOf i).toNat)
  case atStart => exact ⟨0, false, [], Nat.zero_le _, rfl, rfl, fresh_isBuilder 137 5 w, (Below.refl _ w).alloc (Nat.le_refl _) _, Nat.le_refl _, sp_id _⟩
  case round =>
    obtain ⟨k, b, acc, hk, rfl, rfl, hI, hbw, hal, hsp⟩ := hrel
    have hsz : w.heap.size ≤ wr.heap.size := hbw.size
    by_cases hp : k < s.size
    · have hb : s.data.toList[k]? = some (s[k]'hp) := by
        rw [Array.getElem?_toList]
        exact Array.getElem?_eq_getElem hp
      have hd : Hid (∀ c : UInt8, (s[k]'hp) = c → s.data.toList.drop k = c :: s.data.toList.drop (k + 1)) := fun c e => by
        have hkl : k < s.data.toList.length := by rw [← Lib.size_eq]; exact hp
        rw [List.drop_eq_getElem_cons hkl]
        congr 1
      clear hb
      have hlt : (s[k]'hp).toNat < 256 := (s[k]'hp).toNat_lt
      by_cases h0 : (s[k]'hp).toNat = 0
      · cases b with
        | true =>
          go_wp2
          go_ret2
          exact ⟨(by rw [strip_none (by rw [hsp.out, hd.out _ rfl, sp_bad (.inl h0)]; rfl)]; rfl), hbw⟩
        | false =>
          go_wp2
          go_ret2
          exact ⟨(by rw [strip_none (by rw [hsp.out, hd.out _ rfl, sp_bad (.inl h0)]; rfl)]; rfl), hbw⟩
      · by_cases h1 : (s[k]'hp).toNat = 1
        · cases b with
          | true =>
            go_wp2_with (go_at_call 80; refine (writeB w.heap.size w.heap.size _ _ _ hI (by rw [byteCells_length]; omega) hsz).mono ?_)
            rintro e w2 ⟨rfl, g2, b2⟩
            go_wp2
            go_roundw
            case rel => exact ⟨k + 1, false, acc ++ [(s[k]'hp) - 1], hp, rfl, by go_num, .inr (by rw [byteCells_append, bc_sub h1]; exact g2), hbw.trans b2, by simp; omega, by (show sp false s.data.toList = _; rw [hsp.out, hd.out _ rfl]; exact sp_turn (.inl h1))⟩
            case measure => simp [Lib.intOf]; omega
          | false =>
            go_wp2
            go_roundw
            case rel => exact ⟨k + 1, true, acc, hp, rfl, by go_num, hI, hbw, by omega, by (show sp false s.data.toList = _; rw [hsp.out, hd.out _ rfl]; exact sp_start h1)⟩
            case measure => simp [Lib.intOf]; omega
        · by_cases h2 : (s[k]'hp).toNat = 2
          · cases b with
            | true =>
              go_wp2_with (go_at_call 80; refine (writeB w.heap.size w.heap.size _ _ _ hI (by rw [byteCells_length]; omega) hsz).mono ?_)
              rintro e w2 ⟨rfl, g2, b2⟩
              go_wp2
              go_roundw
              case rel => exact ⟨k + 1, false, acc ++ [(s[k]'hp) - 1], hp, rfl, by go_num, .inr (by rw [byteCells_append, bc_sub2 h2]; exact g2), hbw.trans b2, by simp; omega, by (show sp false s.data.toList = _; rw [hsp.out, hd.out _ rfl]; exact sp_turn (.inr h2))⟩
              case measure => simp [Lib.intOf]; omega
            | false =>
              go_wp2_with (go_at_call 80; refine (writeB w.heap.size w.heap.size _ _ _ hI (by rw [byteCells_length]; omega) hsz).mono ?_)
              rintro e w2 ⟨rfl, g2, b2⟩
              go_wp2
              go_roundw
              case rel => exact ⟨k + 1, false, acc ++ [s[k]'hp], hp, rfl, by go_num, .inr (by rw [byteCells_append, bc_one h2]; exact g2), hbw.trans b2, by simp; omega, by (show sp false s.data.toList = _; rw [hsp.out, hd.out _ rfl]; exact sp_plain h0 h1)⟩
              case measure => simp [Lib.intOf]; omega
          · cases b with
            | true =>
              have hbo : ((((s[k]'hp).toNat : Int) == 1) || (((s[k]'hp).toNat : Int) == 2)) = false := by simp; omega
              go_wp2
              go_ret2
              exact ⟨(by rw [strip_none (by rw [hsp.out, hd.out _ rfl, sp_bad (.inr ⟨rfl, h1, h2⟩)]; rfl)]; rfl), hbw⟩
            | false =>
              go_wp2_with (go_at_call 80; refine (writeB w.heap.size w.heap.size _ _ _ hI (by rw [byteCells_length]; omega) hsz).mono ?_)
              rintro e w2 ⟨rfl, g2, b2⟩
              go_wp2
              go_roundw
              case rel => exact ⟨k + 1, false, acc ++ [s[k]'hp], hp, rfl, by go_num, .inr (by rw [byteCells_append, show byteCells [s[k]'hp] = [Value.int .u8 ((s[k]'hp).toNat : Int)] from rfl]; exact g2), hbw.trans b2, by simp; omega, by (show sp false s.data.toList = _; rw [hsp.out, hd.out _ rfl]; exact sp_plain h0 h1)⟩
              case measure => simp [Lib.intOf]; omega
    · have hend : s.data.toList.drop k = [] := List.drop_eq_nil_of_le (by rw [← Lib.size_eq]; omega)
      cases b with
      | true =>
        go_wp2
        go_ret2
        exact ⟨(by rw [strip_none (by rw [hsp.out, hend]; rfl)]; rfl), hbw⟩
      | false =>
        go_wp2_with (go_at_call 81; refine (textB w.heap.size w.heap.size _ _ hI hsz).mono ?_)
        rintro e w1 ⟨rfl, b1⟩
        go_wp2
        go_ret2
        exact ⟨(by rw [strip_some (t := acc) (by rw [hsp.out, hend]; simp [sp])]; rfl), hbw.trans b1⟩
end Go.Eng.SB.B

namespace Go.Eng.SB.B
open Go Go.Eng Go.Eng.SB Go.Lib Go.Proofs Go.RowKit
theorem R_below {w w' : World} {σ : Store} {φ : Places} {B : Nat → Prop} (h : R ⟨w, σ, B⟩ σ φ (getH []) w) (hφ : ∀ k, φ k = none) (hb : Below w.heap.size w w') : R ⟨w, σ, B⟩ σ φ (getH []) w' where
  cell := fun b o y hy => by
    have h0 := h.cell b o y hy
    have hlt : b < w.heap.size := by
      rcases Nat.lt_or_ge b w.heap.size with k | k
      · exact k
      · simp [World.cell?, Array.getElem?_eq_none k] at h0
    have he := hb.block b hlt
    simpa [World.cell?, he] using h0
  apart := fun i L hi => by rw [hφ] at hi; simp at hi
  obj := fun i b L hi hp => by rw [hφ] at hp; simp at hp
  dis := fun i j Li Lj hne hi => by simp [getH] at hi
  lt := fun i L hi => by rw [hφ] at hi; simp at hi
  tape := hb.tape
  os := hb.os
  output := hb.output
  grow := hb.size
  old := fun b hlt _ => hb.block b hlt
  store := h.store
  mine := fun i L hi => by rw [hφ] at hi; simp at hi
  base := h.base
  wf := fun i b hi => by simp [getH] at hi
  len := fun i L sz n f hi => by simp [getH] at hi
theorem answers_text {P : Program} {Γ : Nat → AV} {f : FuncId} {s : ByteArray} {v : AV} {val : Value} (enters : ∀ (args : Array Value) (w : World), (callFunc f args).run P w = .ok (.enter f args) w)
    (hv : ∀ σ φ, V σ φ v val) (h : ∀ w, Calls P f #[.string s] w fun e w' => e = .returned val ∧ Below w.heap.size w w') : Answers P Γ f [.v (.string s)] [] v [] [] where
  len := rfl
  enters := enters
  ok := by
    intro σ φ w vals hG hV hn hR
    have hl : vals = #[.string s] := by
      obtain ⟨h1, h2⟩ := hV
      have hs : vals.size = 1 := by simpa using h1.symm
      have := h2 0 (.v (.string s)) vals[0] rfl (by simp [hs])
      have := this.v_eq
      apply Array.ext
      · simpa using hs
      · intro i hi _
        have : i = 0 := by omega
        subst this
        simpa using ‹vals[0] = _›
    subst hl
    refine (h w).mono fun e w' ⟨he, hb⟩ => ⟨σ, φ, val, he, hv σ φ, ?_, fun _ _ => rfl, fun k _ => hn k (Nat.zero_le _)⟩
    exact R_below hR (fun k => hn k (Nat.zero_le _)) hb
def dressB (s : ByteArray) : ByteArray := ⟨(dress s.data.toList).toArray⟩
def stripO (s : ByteArray) : Option ByteArray := (sp false s.data.toList).map fun t => ⟨t.toArray⟩
def stripA (s : ByteArray) : AV := match stripO s with
  | some t => .tup [.v (.string t), .v (.int .i64 0)]
  | none => .tup [.v (.string ⟨#[]⟩), .v (.int .i64 180)]
theorem ansDr {s : ByteArray} (h : s.size ≤ 1000000000) : Answers Try.prog Γb 22 [.v (.string s)] [] (.v (.string (dressB s))) [] [] :=
  answers_text (callFunc_enters Try.func22 (by kernel_rfl) (by kernel_rfl)) (fun _ _ => V_v _) fun w => dress_walk s w h
theorem V_two {σ : Store} {φ : Places} (a b : Value) : V σ φ (.tup [.v a, .v b]) (.tuple #[a, b]) := .tup rfl fun j c y hc hy => by
  match j, hc, hy with
  | 0, hc, hy => cases hc; cases hy; exact V_v _
  | 1, hc, hy => cases hc; cases hy; exact V_v _
theorem ansSp {s : ByteArray} (h : s.size ≤ 1000000000) : Answers Try.prog Γb 24 [.v (.string s)] [] (stripA s) [] [] :=
  answers_text (callFunc_enters Try.func24 (by kernel_rfl) (by kernel_rfl)) (fun σ φ => by
    unfold stripA stripV stripO
    cases sp false s.data.toList with
    | none => exact V_two _ _
    | some t => exact V_two _ _) fun w => strip_walk s w h
end Go.Eng.SB.B

namespace Go.Eng.SB.B
open Go Go.Eng Go.Eng.SB Go.Lib Go.Proofs
def txSpec (v : ByteArray → AV) (args : List AV) (Hin : List Blk) : Tree Res :=
  match args, Hin with
  | [.v (.string s)], [] => .chk (Nat.ble s.size 1000000000) (.leaf { val := v s })
  | _, _ => .fail
noncomputable def CT.tx {P : Program} {Γ : Nat → AV} (f : FuncId) (v : ByteArray → AV) (enters : ∀ (args : Array Value) (w : World), (callFunc f args).run P w = .ok (.enter f args) w)
    (h : ∀ s, s.size ≤ 1000000000 → Answers P Γ f [.v (.string s)] [] (v s) [] []) : CT P Γ where
  f := f
  spec := txSpec v
  enters := enters
  ok := fun args Hin r hr => by
    unfold txSpec at hr
    split at hr
    · rename_i s
      obtain ⟨h1, hr⟩ := Tree.chk_get hr
      obtain rfl := Tree.leaf_get hr
      exact (h s (Nat.le_of_ble_eq_true h1)).cU rfl
    · simp [Tree.get] at hr
noncomputable def kDr : CT Try.prog Γb := CT.tx 22 (fun s => .v (.string (dressB s))) (callFunc_enters Try.func22 (by kernel_rfl) (by kernel_rfl)) fun s h => ansDr h
noncomputable def kSp : CT Try.prog Γb := CT.tx 24 stripA (callFunc_enters Try.func24 (by kernel_rfl) (by kernel_rfl)) fun s h => ansSp h
end Go.Eng.SB.B

namespace Go.Eng.SB.B
open Go Go.Eng Go.Eng.SB Go.Lib Go.Proofs Go.RowKit
set_option maxHeartbeats 1000000 in
set_option maxRecDepth 100000 in
theorem byte_lite (s : ByteArray) (c : Int) (w : World) :
    Calls Try.prog 124 #[.string s, .int .u8 c] w fun e w' => e = .returned (.int .i64 (Lib.indexByte s.data.toList c.toNat.toUInt8)) ∧ w' = w := by
  go_enter Try.func124, Try.ntmps124
  go_wp2
  rw [run_callFunc_extern Try.func145 (by kernel_rfl) (by kernel_rfl) (by kernel_rfl) (e := Extern.BytealgIndexByte.indexByte) (by kernel_rfl), Lib.run_indexByteString]
  simp only [Result.andThen]
  rw [Oper.upon_value]
  go_wp2
  go_ret
  exact ⟨rfl, rfl⟩
set_option maxHeartbeats 1000000 in
theorem byte_at (s : ByteArray) (c : Int) (w : World) :
    Calls Try.prog 90 #[.string s, .int .u8 c] w fun e w' => e = .returned (.int .i64 (Lib.indexByte s.data.toList c.toNat.toUInt8)) ∧ w' = w := by
  go_enter Try.func90, Try.ntmps90
  go_wp2_with (go_at_call 124; refine (byte_lite _ _ _).mono ?_; rintro e w' ⟨rfl, rfl⟩)
  go_ret
  exact ⟨rfl, rfl⟩
theorem answers_text2 {P : Program} {Γ : Nat → AV} {f : FuncId} {s : ByteArray} {c : Int} {v : AV} {val : Value} (enters : ∀ (args : Array Value) (w : World), (callFunc f args).run P w = .ok (.enter f args) w)
    (hv : ∀ σ φ, V σ φ v val) (h : ∀ w, Calls P f #[.string s, .int .u8 c] w fun e w' => e = .returned val ∧ Below w.heap.size w w') : Answers P Γ f [.v (.string s), .v (.int .u8 c)] [] v [] [] where
  len := rfl
  enters := enters
  ok := by
    intro σ φ w vals hG hV hn hR
    have hl : vals = #[.string s, .int .u8 c] := by
      obtain ⟨h1, h2⟩ := hV
      have hs : vals.size = 2 := by simpa using h1.symm
      have e0 := (h2 0 (.v (.string s)) vals[0] rfl (by simp [hs])).v_eq
      have e1 := (h2 1 (.v (.int .u8 c)) vals[1] rfl (by simp [hs])).v_eq
      apply Array.ext
      · simpa using hs
      · intro i hi _
        match i, hi with
        | 0, _ => simpa using e0
        | 1, _ => simpa using e1
        | i + 2, hi => omega
    subst hl
    refine (h w).mono fun e w' ⟨he, hb⟩ => ⟨σ, φ, val, he, hv σ φ, ?_, fun _ _ => rfl, fun k _ => hn k (Nat.zero_le _)⟩
    exact R_below hR (fun k => hn k (Nat.zero_le _)) hb
def ixB (s : ByteArray) (c : Int) : Int := Lib.indexByte s.data.toList c.toNat.toUInt8
theorem ansIx (s : ByteArray) (c : Int) : Answers Try.prog Γb 90 [.v (.string s), .v (.int .u8 c)] [] (.v (.int .i64 (ixB s c))) [] [] :=
  answers_text2 (callFunc_enters Try.func90 (by kernel_rfl) (by kernel_rfl)) (fun _ _ => V_v _) fun w => (byte_at s c w).mono fun e w' ⟨h1, h2⟩ => ⟨h1, by rw [h2]; exact Below.refl _ _⟩
def ixSpec (args : List AV) (Hin : List Blk) : Tree Res :=
  match args, Hin with
  | [.v (.string s), .v (.int .u8 c)], [] => .leaf { val := .v (.int .i64 (ixB s c)) }
  | _, _ => .fail
noncomputable def kIx : CT Try.prog Γb where
  f := 90
  spec := ixSpec
  enters := callFunc_enters Try.func90 (by kernel_rfl) (by kernel_rfl)
  ok := fun args Hin r hr => by
    unfold ixSpec at hr
    split at hr
    · rename_i s c
      obtain rfl := Tree.leaf_get hr
      exact (ansIx s c).cU rfl
    · simp [Tree.get] at hr
end Go.Eng.SB.B

namespace Go.Eng.SB.B
open Go Go.Eng Go.Eng.SB Go.Lib Go.Proofs
noncomputable def z95x : CT Try.prog Γb := CT.auto true 100 3 [] 95 Try.f95 (bodyOf Try.f95) false 8 [.tmp 2] Try.func95 (by kernel_rfl) (by kernel_rfl) (by kernel_rfl) (by kernel_rfl)
noncomputable def z121x : CT Try.prog Γb := CT.auto true 100 3 [z95x] 121 Try.f121 (bodyOf Try.f121) false 30 [.tmp 4, .tmp 5] Try.func121 (by kernel_rfl) (by kernel_rfl) (by kernel_rfl) (by kernel_rfl)
noncomputable def z82x : CT Try.prog Γb := CT.auto true 100 3 [z121x] 82 Try.f82 (bodyOf Try.f82) false 25 [.tmp 2, .tmp 3] Try.func82 (by kernel_rfl) (by kernel_rfl) (by kernel_rfl) (by kernel_rfl)
noncomputable def z26x : CT Try.prog Γb := CT.auto true 100 3 [z82x, kDr] 26 Try.f26 (bodyOf Try.f26) false 44 [.tmp 2, .tmp 3] Try.func26 (by kernel_rfl) (by kernel_rfl) (by kernel_rfl) (by kernel_rfl)
noncomputable def z14x : CT Try.prog Γb := CT.auto true 100 3 [] 14 Try.f14 (bodyOf Try.f14) false 13 [.tmp 2, .tmp 3] Try.func14 (by kernel_rfl) (by kernel_rfl) (by kernel_rfl) (by kernel_rfl)
noncomputable def z78x : CT Try.prog Γb := CT.auto true 100 3 [] 78 Try.f78 (bodyOf Try.f78) false 11 [.tmp 2] Try.func78 (by kernel_rfl) (by kernel_rfl) (by kernel_rfl) (by kernel_rfl)
noncomputable def z79x : CT Try.prog Γb := CT.auto true 100 3 [] 79 Try.f79 (bodyOf Try.f79) false 8 [.tmp 2] Try.func79 (by kernel_rfl) (by kernel_rfl) (by kernel_rfl) (by kernel_rfl)
noncomputable def z19x : CT Try.prog Γb := CT.auto true 100 3 [z78x, z79x] 19 Try.f19 (bodyOf Try.f19) false 20 [.tmp 2, .tmp 3, .tmp 4] Try.func19 (by kernel_rfl) (by kernel_rfl) (by kernel_rfl) (by kernel_rfl)
noncomputable def z144x : CT Try.prog Γb := CT.auto true 100 3 [] 144 Try.f144 (bodyOf Try.f144) false 21 [.tmp 4] Try.func144 (by kernel_rfl) (by kernel_rfl) (by kernel_rfl) (by kernel_rfl)
noncomputable def z122x : CT Try.prog Γb := CT.auto true 100 3 [z144x] 122 Try.f122 (bodyOf Try.f122) false 18 [.tmp 4, .tmp 5] Try.func122 (by kernel_rfl) (by kernel_rfl) (by kernel_rfl) (by kernel_rfl)
noncomputable def z86x : CT Try.prog Γb := CT.auto true 100 3 [z122x] 86 Try.f86 (bodyOf Try.f86) false 11 [.tmp 4, .tmp 5] Try.func86 (by kernel_rfl) (by kernel_rfl) (by kernel_rfl) (by kernel_rfl)
noncomputable def z42x : CT Try.prog Γb := CT.auto true 100 3 [z95x] 42 Try.f42 (bodyOf Try.f42) false 7 [.tmp 2] Try.func42 (by kernel_rfl) (by kernel_rfl) (by kernel_rfl) (by kernel_rfl)
noncomputable def z97x : CT Try.prog Γb := CT.auto true 100 3 [] 97 Try.f97 (bodyOf Try.f97) false 24 [] Try.func97 (by kernel_rfl) (by kernel_rfl) (by kernel_rfl) (by kernel_rfl)
noncomputable def z87x : CT Try.prog Γb := CT.auto true 100 3 [z97x] 87 Try.f87 (bodyOf Try.f87) false 75 [.tmp 2] Try.func87 (by kernel_rfl) (by kernel_rfl) (by kernel_rfl) (by kernel_rfl)
noncomputable def z88x : CT Try.prog Γb := CT.auto true 100 3 [] 88 Try.f88 (bodyOf Try.f88) false 24 [.tmp 2] Try.func88 (by kernel_rfl) (by kernel_rfl) (by kernel_rfl) (by kernel_rfl)
noncomputable def z44x : CT Try.prog Γb := CT.auto true 100 3 [] 44 Try.f44 (bodyOf Try.f44) false 10 [.tmp 2] Try.func44 (by kernel_rfl) (by kernel_rfl) (by kernel_rfl) (by kernel_rfl)
noncomputable def z28x : CT Try.prog Γb := CT.auto true 100 3 [z86x, kSp, z42x, z87x, z88x, z44x, z26x] 28 Try.f28 (bodyOf Try.f28) false 65 [.cell 2 46, .tmp 3] Try.func28 (by kernel_rfl) (by kernel_rfl) (by kernel_rfl) (by kernel_rfl)
noncomputable def z91x : CT Try.prog Γb := CT.auto true 100 3 [] 91 Try.f91 (bodyOf Try.f91) false 32 [] Try.func91 (by kernel_rfl) (by kernel_rfl) (by kernel_rfl) (by kernel_rfl)
noncomputable def z77x : CT Try.prog Γb := CT.auto true 100 3 [] 77 Try.f77 (bodyOf Try.f77) false 13 [.tmp 2] Try.func77 (by kernel_rfl) (by kernel_rfl) (by kernel_rfl) (by kernel_rfl)
noncomputable def z118x : CT Try.prog Γb := CT.auto true 100 3 [] 118 Try.f118 (bodyOf Try.f118) false 23 [.tmp 2] Try.func118 (by kernel_rfl) (by kernel_rfl) (by kernel_rfl) (by kernel_rfl)
noncomputable def z119x : CT Try.prog Γb := CT.auto true 100 3 [z118x] 119 Try.f119 (bodyOf Try.f119) false 19 [.tmp 8] Try.func119 (by kernel_rfl) (by kernel_rfl) (by kernel_rfl) (by kernel_rfl)
noncomputable def z76x : CT Try.prog Γb := CT.auto true 100 3 [z78x, z77x, z119x] 76 Try.f76 (bodyOf Try.f76) false 47 [.tmp 4] Try.func76 (by kernel_rfl) (by kernel_rfl) (by kernel_rfl) (by kernel_rfl)
noncomputable def z31x : CT Try.prog Γb := CT.auto true 100 3 [z19x, kIx, z28x, z91x, z76x] 31 Try.f31 (bodyOf Try.f31) false 82 [.tmp 2, .tmp 3] Try.func31 (by kernel_rfl) (by kernel_rfl) (by kernel_rfl) (by kernel_rfl)
noncomputable def z17x : CT Try.prog Γb := CT.auto true 100 3 [] 17 Try.f17 (bodyOf Try.f17) false 12 [.tmp 2] Try.func17 (by kernel_rfl) (by kernel_rfl) (by kernel_rfl) (by kernel_rfl)
noncomputable def z20x : CT Try.prog Γb := CT.auto true 100 3 [z77x] 20 Try.f20 (bodyOf Try.f20) false 17 [.tmp 2, .tmp 3, .tmp 4] Try.func20 (by kernel_rfl) (by kernel_rfl) (by kernel_rfl) (by kernel_rfl)
noncomputable def z73x : CT Try.prog Γb := CT.auto true 100 3 [z78x, z118x] 73 Try.f73 (bodyOf Try.f73) false 52 [.tmp 4] Try.func73 (by kernel_rfl) (by kernel_rfl) (by kernel_rfl) (by kernel_rfl)
noncomputable def z74x : CT Try.prog Γb := CT.auto true 100 3 [z78x, z118x, z77x] 74 Try.f74 (bodyOf Try.f74) false 18 [.tmp 2] Try.func74 (by kernel_rfl) (by kernel_rfl) (by kernel_rfl) (by kernel_rfl)
noncomputable def z92x : CT Try.prog Γb := CT.auto true 100 3 [z17x, z26x, z20x, z73x, z74x, z91x] 92 Try.f92 (bodyOf Try.f92) false 84 [.tmp 6, .tmp 7] Try.func92 (by kernel_rfl) (by kernel_rfl) (by kernel_rfl) (by kernel_rfl)
noncomputable def z37x : CT Try.prog Γb := CT.auto true 100 3 [z92x] 37 Try.f37 (bodyOf Try.f37) false 14 [.tmp 4] Try.func37 (by kernel_rfl) (by kernel_rfl) (by kernel_rfl) (by kernel_rfl)
noncomputable def z33x : CT Try.prog Γb := CT.auto true 100 3 [] 33 Try.f33 (bodyOf Try.f33) false 9 [.tmp 2] Try.func33 (by kernel_rfl) (by kernel_rfl) (by kernel_rfl) (by kernel_rfl)
noncomputable def z36x : CT Try.prog Γb := CT.auto true 100 3 [] 36 Try.f36 (bodyOf Try.f36) false 24 [.tmp 2] Try.func36 (by kernel_rfl) (by kernel_rfl) (by kernel_rfl) (by kernel_rfl)
theorem zrun21 : (bodyE (P := Try.prog) (Γ := Γb) [z26x, kDr, z14x, z31x, z37x, z33x, z36x] (autoL true 100 [z26x, kDr, z14x, z31x, z37x, z33x, z36x] false 0 55 (loopBodies (bodyOf Try.f21)) 3) false 55 [.tmp 0] (bodyOf Try.f21) [] []).get = some ⟨.sb true, []⟩ := by kernel_rfl
noncomputable def z21' : CT Try.prog Γb := CT.fact 21 Try.f21 (bodyOf Try.f21) [z26x, kDr, z14x, z31x, z37x, z33x, z36x] (autoL true 100 [z26x, kDr, z14x, z31x, z37x, z33x, z36x] false 0 55 (loopBodies (bodyOf Try.f21)) 3) false 55 [.tmp 0] Try.func21 (by kernel_rfl) (by kernel_rfl) (by kernel_rfl) (by kernel_rfl) (autoL_ok 3) (.sb true) (.sb true) zrun21
end Go.Eng.SB.B

namespace Go.Eng.SB
open Go Go.Eng Go.Proofs
noncomputable def loopR : Code := loopOf (bodyOf Try.f84) 0
theorem roundR (n : Nat) (t : ByteArray) : roundE (P := Try.prog) (Γ := Γb) [] Lno false 0 0 loopR [0, 4] [] 29 [.v (.int .i64 (n : Int)), .v (.string t)] [] =
  Tree.br (decide ((127 : Int) < (↑n : Int))) (Tree.chk true (Tree.chk (allBytes (1 : Nat) fun j => chain [AV.v (Value.int IntKind.u8 (0 : Int))] (0 : Nat) [[AV.v (Value.int IntKind.u8
    (IntKind.wrap IntKind.u8 (IntKind.wrap IntKind.i64 (Int.tmod (↑n : Int) (128 : Int) + (128 : Int)))))]] ((0 : Nat) + j)) (Tree.chk (decide (ByteArray.size t + (1 : Nat) ≤
    (9223372036854775807 : Nat))) (Tree.chk true (Tree.leaf (Out.mk AEx.normal [AV.v (Value.int IntKind.i64 (IntKind.wrap IntKind.i64 (Int.tdiv (↑n : Int) (128 : Int)))), AV.v (Value.string
    (t ++ textOf (1 : Nat) fun j => chain [AV.v (Value.int IntKind.u8 (0 : Int))] (0 : Nat) [[AV.v (Value.int IntKind.u8 (IntKind.wrap IntKind.u8 (IntKind.wrap IntKind.i64 (Int.tmod (↑n :
    Int) (128 : Int) + (128 : Int)))))]] ((0 : Nat) + j)))] [])))))) (Tree.leaf (Out.mk (AEx.exit (0 : Nat)) [AV.v (Value.int IntKind.i64 (↑n : Int)), AV.v (Value.string t)] [])) := by kernel_rfl
def SR (n : Nat) (t : ByteArray) : List AV × Heap := ([.v (.int .i64 (n : Int)), .v (.string t)], [])
def OR (n : Nat) (t : ByteArray) : Out := ⟨.exit 0, [.v (.int .i64 (loN n : Int)), .v (.string (t ++ hiB n))], []⟩
theorem digitR (n : Nat) : IntKind.u8.wrap (IntKind.i64.wrap ((n : Int).tmod (128 : Int) + (128 : Int))) = ((n % 128 + 128 : Nat) : Int) := by
  rw [show (128 : Int) = ((128 : Nat) : Int) from rfl, tmod_nat, wrap64E, wrapU8]
  omega
theorem loopR_ok : ∀ x : Nat × ByteArray, preN x → LoopOK Try.prog Γb 0 29 loopR (LSpec.at [0, 4] [] (SR x.1 x.2) (OR x.1 x.2)) := by
  refine loop_at (S := fun x : Nat × ByteArray => SR x.1 x.2) (O := fun x => OR x.1 x.2) (k := 0) (fun x => x.1) fun x hp => ⟨[], Lno, false, noLoops (by kernel_rfl), ?_⟩
  obtain ⟨n, t⟩ := x
  show (roundE (P := Try.prog) (Γ := Γb) [] Lno false 0 0 loopR [0, 4] [] 29 [.v (.int .i64 (n : Int)), .v (.string t)] []).sat _
  rw [roundR]
  have hp1 : n ≤ 4611686018427387904 := hp.1
  have hp2 : t.size + (hiB n).size ≤ 1000000100 := hp.2
  refine ⟨fun hc => ?_, fun hc => ?_⟩
  · have h : (127 : Int) < (n : Int) := of_decide_eq_true hc
    have hge : ¬ n < 128 := by omega
    have e1 := hiB_ge hge
    rw [e1] at hp2
    simp only [ByteArray.size_append, oneB_size] at hp2
    have e2 : IntKind.i64.wrap ((n : Int).tdiv (128 : Int)) = ((n / 128 : Nat) : Int) := by
      rw [show (128 : Int) = ((128 : Nat) : Int) from rfl, tdiv_nat, wrap64E]
      omega
    refine ⟨rfl, rfl, decide_eq_true (by omega), rfl, (n / 128, t ++ oneB (n % 128 + 128)), ?_, trivial, ⟨?_, ?_⟩, ?_, ?_⟩
    · simp only [textOf_one, digitR, Int.toNat_natCast, e2]
      exact ⟨.refl _, .refl _, trivial⟩
    · show n / 128 ≤ _; omega
    · show (t ++ oneB (n % 128 + 128)).size + (hiB (n / 128)).size ≤ _
      simp only [ByteArray.size_append, oneB_size]; omega
    · simp only [OR]; rw [show loN (n / 128) = loN n from (loN_ge hge).symm, e1, ByteArray.append_assoc]
    · show n / 128 < n; omega
  · have h : ¬ (127 : Int) < (n : Int) := of_decide_eq_false hc
    refine ⟨rfl, ?_, trivial⟩
    simp only [OR, hiB_lt (show n < 128 by omega), loN_lt (show n < 128 by omega), append_empty]
    exact LeL.refl _
def okN (n : Int) : Bool := decide (0 ≤ n) && decide (n ≤ 4611686018427387904)
def capN (n : Int) : Nat := min n.toNat 4611686018427387904
theorem capN_nat {k : Nat} (h : k ≤ 4611686018427387904) : capN (k : Int) = k := by
  unfold capN
  rw [Int.toNat_natCast]
  exact Nat.min_eq_left h
noncomputable def LR : List KC → Nat → LSpec
  | [.i n] => fun _ => LSpec.at [0, 4] [] (SR (capN n) ⟨#[]⟩) (OR (capN n) ⟨#[]⟩)
  | _ => Lno
noncomputable def gR : List KC → AV
  | [.i n] => .tup [.v (.string (bif okN n then numB n.toNat else ⟨#[]⟩)), .sb (okN n)]
  | _ => .any
theorem runR (n : Int) : bodyE (P := Try.prog) (Γ := Γb) [] (LR [.i n]) false 29 [.tmp 2, .tmp 3] (bodyOf Try.f84) [.v (.int .i64 n)] [] =
  Tree.br (bif decide (n < (0 : Int)) then true else decide ((4611686018427387904 : Int) < n)) (Tree.leaf (Ans.mk (AV.tup [AV.v (Value.string (ByteArray.mk #[])), AV.v (Value.bool false)])
    [])) (Tree.chk (cl (LeL [AV.v (Value.int IntKind.i64 n), AV.v (Value.string (ByteArray.mk #[]))] [AV.v (Value.int IntKind.i64 (↑(capN n) : Int)), AV.v (Value.string (ByteArray.mk #[]))]
    ∧ LeH [] [])) (Tree.chk (allBytes (1 : Nat) fun j => chain [AV.v (Value.int IntKind.u8 (0 : Int))] (0 : Nat) [[AV.v (Value.int IntKind.u8 (IntKind.wrap IntKind.u8 (↑(loN (capN n)) :
    Int)))]] ((0 : Nat) + j)) (Tree.chk (decide (ByteArray.size (ByteArray.mk #[] ++ hiB (capN n)) + (1 : Nat) ≤ (9223372036854775807 : Nat))) (Tree.leaf (Ans.mk (AV.tup [AV.v (Value.string
    (ByteArray.mk #[] ++ hiB (capN n) ++ textOf (1 : Nat) fun j => chain [AV.v (Value.int IntKind.u8 (0 : Int))] (0 : Nat) [[AV.v (Value.int IntKind.u8 (IntKind.wrap IntKind.u8 (↑(loN (capN
    n)) : Int)))]] ((0 : Nat) + j))), AV.v (Value.bool true)]) []))))) := by kernel_rfl
theorem badN (n : Int) : (bif decide (n < (0 : Int)) then true else decide ((4611686018427387904 : Int) < n)) = !okN n := by
  unfold okN
  by_cases h : n < 0
  · rw [decide_eq_true h, decide_eq_false (show ¬ 0 ≤ n by omega)]; rfl
  · rw [decide_eq_false h, decide_eq_true (show 0 ≤ n by omega)]
    by_cases h2 : 4611686018427387904 < n
    · rw [decide_eq_true h2, decide_eq_false (show ¬ n ≤ 4611686018427387904 by omega)]; rfl
    · rw [decide_eq_false h2, decide_eq_true (show n ≤ 4611686018427387904 by omega)]; rfl
theorem okN_nat {n : Int} (h : okN n = true) : ∃ k : Nat, n = k ∧ k ≤ 4611686018427387904 := by
  unfold okN at h
  simp only [Bool.and_eq_true, decide_eq_true_eq] at h
  exact ⟨n.toNat, by omega, by omega⟩
theorem small_nil : small ⟨#[]⟩ := by unfold small; decide
theorem givesR (n : Int) : Gives (bodyE (P := Try.prog) (Γ := Γb) [] (LR [.i n]) false 29 [.tmp 2, .tmp 3] (bodyOf Try.f84) [.v (.int .i64 n)] []) (.tup [.v (.string (bif okN n then numB n.toNat else ⟨#[]⟩)), .sb (okN n)]) := by
  refine Gives.of (runR n) ?_
  rw [badN]
  cases hok : okN n with
  | false => exact ⟨fun _ => ⟨le_tup ⟨.refl _, .bs _, trivial⟩, trivial⟩, fun hc => by simp at hc⟩
  | true =>
    obtain ⟨k, rfl, hk⟩ := okN_nat hok
    have hl := loN_small k
    have hp : ((⟨#[]⟩ : ByteArray).size) + (hiB k).size ≤ 1000000100 := (pre_of small_nil hk).2
    have e : IntKind.u8.wrap (loN k : Int) = ((loN k : Nat) : Int) := by rw [wrapU8]; omega
    refine ⟨fun hc => by simp at hc, fun _ => ⟨cl_iff.2 ⟨by rw [capN_nat hk]; exact LeL.refl _, trivial⟩, rfl, decide_eq_true (by rw [capN_nat hk]; simp only [ByteArray.size_append] at *; omega), ?_, trivial⟩⟩
    simp only [capN_nat hk, Int.toNat_natCast, textOf_one, e, empty_append]
    exact le_tup ⟨.refl _, .bs _, trivial⟩
theorem fit1c {c : Cel} {l : List KC} (h : kFit [c] l = true) : ∃ x, l = [x] ∧ kcFit c x = true := by
  match l, h with
  | [x], h => simp only [kFit, Bool.and_true] at h; exact ⟨x, rfl, h⟩
  | [], h => simp [kFit] at h
  | _ :: _ :: _, h => simp [kFit] at h
noncomputable def Z.c84 : CT Try.prog Γb := CT.funL 84 Try.f84 (bodyOf Try.f84) [] LR false 29 [.tmp 2, .tmp 3] [.c (.int .i64)] (fun l => match l with | [.i n] => true | _ => false) gR Try.func84 (by kernel_rfl) (by kernel_rfl) (by kernel_rfl) (by kernel_rfl) (by decide)
  (fun l h _ => by
    obtain ⟨x, rfl, hx⟩ := fit1c h
    cases x <;> simp [kcFit] at hx
    rename_i n _
    exact oneLoop (b := loopR) (by kernel_rfl) (loopR_ok (capN n, ⟨#[]⟩) (pre_of small_nil (Nat.min_le_right _ _))))
  (fun l h _ => by
    obtain ⟨x, rfl, hx⟩ := fit1c h
    cases x <;> simp [kcFit] at hx
    exact givesR _)
end Go.Eng.SB
