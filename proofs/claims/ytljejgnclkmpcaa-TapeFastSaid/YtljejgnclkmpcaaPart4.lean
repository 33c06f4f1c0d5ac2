/- Texts that TF15r needs: EngAO and what follows it. -/
import Derived.Test.YtljejgnclkmpcaaPart3
import Derived.RowKit
import Derived.Carry
import Derived.Lib.DecodeN
import Derived.Test.YtljejgnclkmpcaaChecked
import Derived.KernelRfl
set_option linter.unnecessarySimpa false
set_option linter.unusedSectionVars false
set_option linter.unusedSimpArgs false
set_option linter.unusedVariables false
namespace Go.Eng
open Go
def lsF {α : Type} [Inhabited α] (c : α → List AV) (l : List α) : Nat → List AV := fun j => c (l.getD j default)
structure Cod {α : Type} (c : α → List AV) (sz : Nat) : Prop where
  len : ∀ x, (c x).length = sz
  mix : ∀ b x y, mixL b (c x) (c y) = c (bif b then x else y)
section
variable {α : Type} [Inhabited α] {c : α → List AV} {sz : Nat}
theorem getD_app {l r : List α} {j : Nat} (h : j < l.length) : (l ++ r).getD j default = l.getD j default := by
  rw [List.getD_eq_getElem?_getD, List.getD_eq_getElem?_getD, List.getElem?_append_left h]
theorem getD_app' {l r : List α} {j : Nat} (h : l.length ≤ j) : (l ++ r).getD j default = r.getD (j - l.length) default := by
  rw [List.getD_eq_getElem?_getD, List.getD_eq_getElem?_getD, List.getElem?_append_right h]
theorem getD_get {l : List α} {j : Nat} (h : j < l.length) : l.getD j default = l[j] := by
  rw [List.getD_eq_getElem?_getD, List.getElem?_eq_getElem h]; rfl
theorem Cod.row (h : Cod c sz) {N : Nat} {f : Nat → List AV} {l : List α} (hN : N = l.length) (hf : ∀ e, e < N → f e = lsF c l e) : OLe (some (.arr sz N f)) (some (.arr sz l.length (lsF c l))) := by
  subst hN
  exact .some (.arr (fun e he => by rw [hf e he]; exact LeL.refl _) fun e => h.len _)
theorem Cod.mixT (h : Cod c sz) (x y : α) : mixL true (c x) (c y) = c x := h.mix true x y
theorem Cod.mixF (h : Cod c sz) (x y : α) : mixL false (c x) (c y) = c y := h.mix false x y
theorem Cod.one (h : Cod c sz) (x z : α) : chain (c z) 0 [c x] 0 = c x := h.mixT x z
theorem Cod.app1 (h : Cod c sz) (l junk : List α) (x z : α) {n N : Nat} (hn : n = l.length) (hN : N = l.length + 1) :
    OLe (some (.arr sz N fun j => mixL (decide (j < n)) (lsF c (l ++ junk) j) (chain (c z) 0 [c x] (j - n)))) (some (.arr sz (l ++ [x]).length (lsF c (l ++ [x])))) := by
  subst hn; subst hN
  refine h.row (by simp) fun e he => ?_
  by_cases hl : e < l.length
  · simp only [decide_eq_true hl, lsF, Nat.zero_add, getD_app hl]
    have : chain (c z) 0 [c x] (e - l.length) = c x := by
      rw [show e - l.length = 0 by omega]; exact h.one x z
    rw [this]
    exact h.mixT _ _
  · have he' : e = l.length := by omega
    subst he'
    simp only [decide_eq_false hl, lsF, Nat.zero_add, Nat.sub_self, getD_app' (Nat.le_refl _)]
    rw [h.one]
    exact h.mixF _ _

theorem Cod.app0 (h : Cod c sz) (l : List α) (x z : α) {n N : Nat} (hn : n = l.length) (hN : N = l.length + 1) :
    OLe (some (.arr sz N fun j => mixL (decide (j < n)) (lsF c l j) (chain (c z) 0 [c x] (j - n)))) (some (.arr sz (l ++ [x]).length (lsF c (l ++ [x])))) := by
  have := h.app1 l [] x z hn hN
  rw [List.append_nil] at this
  exact this
theorem lsF_at (c : α → List AV) (l : List α) (j : Nat) : lsF c l j = c (l.getD j default) := rfl
theorem Cod.clone (h : Cod c sz) (l junk : List α) (z : α) {N : Nat} (hn : N = l.length) :
    OLe (some (.arr sz N fun j => mixL (decide (j < 0)) (chain (c z) 0 [] j) (lsF c (l ++ junk) j))) (some (.arr sz l.length (lsF c l))) := by
  refine h.row hn fun e he => ?_
  rw [hn] at he
  simp only [Nat.zero_add, lsF_at, getD_app he]
  rw [decide_eq_false (Nat.not_lt_zero e)]
  exact h.mixF _ _
theorem getD_eraseIdx {l : List α} {i j : Nat} : (l.eraseIdx i).getD j default = if j < i then l.getD j default else l.getD (j + 1) default := by
  rw [List.getD_eq_getElem?_getD, List.getElem?_eraseIdx]
  split <;> rw [List.getD_eq_getElem?_getD]
theorem Cod.mixE (h : Cod c sz) {b : Bool} {x y : List AV} {u v : α} (hx : x = c u) (hy : y = c v) : mixL b x y = c (bif b then u else v) := by rw [hx, hy, h.mix]
theorem Cod.del (h : Cod c sz) (l junk : List α) (z : α) {i n : Nat} (hn : n = l.length) (hi : i < l.length) :
    OLe (some (.arr sz (l ++ junk).length fun j => mixL (decide (i + (n - (i + 1)) ≤ j) && decide (j < i + (n - (i + 1)) + (n - (i + (n - (i + 1)))))) (c z)
      (mixL (decide (i ≤ j) && decide (j < i + (n - (i + 1)))) (lsF c (l ++ junk) (i + 1 + (j - i))) (lsF c (l ++ junk) j))))
      (some (.arr sz (l.eraseIdx i ++ (z :: junk)).length (lsF c (l.eraseIdx i ++ (z :: junk))))) := by
  subst hn
  have hle : (l.eraseIdx i).length = l.length - 1 := List.length_eraseIdx_of_lt hi
  refine h.row (by simp [hle]; omega) fun e he => ?_
  simp only [lsF_at, h.mix]
  refine congrArg c ?_
  simp only [cond_eq_ite, Bool.and_eq_true, decide_eq_true_eq]
  rcases Nat.lt_trichotomy e (l.length - 1) with h1 | h1 | h1
  · rw [if_neg (by omega), getD_app (l := l.eraseIdx i) (by omega), getD_eraseIdx]
    by_cases h2 : i ≤ e
    · rw [if_pos (by omega), if_neg (by omega), show i + 1 + (e - i) = e + 1 by omega, getD_app (by omega)]
    · rw [if_neg (by omega), if_pos (by omega), getD_app (by omega)]
  · rw [if_pos (by omega), getD_app' (l := l.eraseIdx i) (by omega), hle, h1, Nat.sub_self]
    rfl
  · rw [if_neg (by omega), if_neg (by omega), getD_app' (l := l.eraseIdx i) (by omega), getD_app' (by omega), hle]
    rw [show e - (l.length - 1) = (e - l.length) + 1 by omega]
    rfl
theorem chain_nil (z : List AV) (i k : Nat) : chain z i [] k = z := rfl
theorem Cod.chain1 (h : Cod c sz) (z x : α) (k : Nat) : chain (c z) 0 [c x] k = c (bif Nat.beq k 0 then x else z) := h.mix _ x z
theorem Cod.app2 (h : Cod c sz) (l junk : List α) (x z z' : α) {n N : Nat} (hn : n = l.length) (hN : N = l.length + 1) :
    OLe (some (.arr sz N fun j => mixL (decide (j < n)) (mixL (decide (j < 0)) (chain (c z') 0 [] j) (lsF c (l ++ junk) j)) (chain (c z) 0 [c x] (j - n)))) (some (.arr sz (l ++ [x]).length (lsF c (l ++ [x])))) := by
  subst hn; subst hN
  refine h.row (by simp) fun e he => ?_
  simp only [lsF_at, chain_nil, h.chain1, h.mix]
  refine congrArg c ?_
  rw [decide_eq_false (Nat.not_lt_zero e)]
  simp only [cond_false]
  by_cases hl : e < l.length
  · rw [decide_eq_true hl, getD_app hl, getD_app hl]; rfl
  · have he' : e = l.length := by omega
    subst he'
    rw [decide_eq_false hl, getD_app' (l := l) (r := [x]) (Nat.le_refl _), Nat.sub_self]; rfl
theorem Cod.del2 (h : Cod c sz) (l junk : List α) (z : α) {i N : Nat} (hi : i < l.length) (hN : N = l.length - 1) :
    OLe (some (.arr sz N fun j => mixL (decide (j < i)) (mixL (decide (j < 0)) (chain (c z) 0 [] j) (lsF c (l ++ junk) j)) (lsF c (l ++ junk) (i + 1 + (j - i))))) (some (.arr sz (l.eraseIdx i).length (lsF c (l.eraseIdx i)))) := by
  subst hN
  have hle : (l.eraseIdx i).length = l.length - 1 := List.length_eraseIdx_of_lt hi
  refine h.row hle.symm fun e he => ?_
  simp only [lsF_at, chain_nil, h.mix]
  refine congrArg c ?_
  rw [decide_eq_false (Nat.not_lt_zero e), getD_eraseIdx]
  simp only [cond_false]
  by_cases hl : e < i
  · rw [decide_eq_true hl, getD_app (by omega), if_pos hl]; rfl
  · rw [decide_eq_false hl, if_neg hl, show i + 1 + (e - i) = e + 1 by omega, getD_app (l := l) (r := junk) (j := e + 1) (by omega)]; rfl
theorem cl_false {p : Prop} : cl p = false ↔ ¬ p := by
  rw [← Bool.not_eq_true, cl_iff]
theorem sat_brT {β : Type} {t e : Tree β} {Q : β → Prop} : (Tree.br true t e).sat Q = t.sat Q := by simp
theorem sat_brF {β : Type} {t e : Tree β} {Q : β → Prop} : (Tree.br false t e).sat Q = e.sat Q := by simp
theorem sat_chkT {β : Type} {t : Tree β} {Q : β → Prop} : (Tree.chk true t).sat Q = t.sat Q := by simp
end
section
variable {P : Program} {Γ : Nat → AV} {X : Type} {S : X → List AV × Heap} {pre : X → Prop} {O : X → Out} {μ : X → Nat} {n : Nat} {o : Out} {fr : List AV} {H : Heap}
theorem owesN : OwesA S pre O μ n o ⟨.normal, fr, H⟩ = ∃ x', LeL fr (S x').1 ∧ LeH H (S x').2 ∧ pre x' ∧ O x' = o ∧ μ x' < n := rfl
theorem owesX {id : Nat} : OwesA S pre O μ n o ⟨.exit id, fr, H⟩ = (.exit id = o.ex ∧ LeL fr o.fr ∧ LeH H o.H) := rfl
theorem owesR : OwesA S pre O μ n o ⟨.ret, fr, H⟩ = (.ret = o.ex ∧ LeL fr o.fr ∧ LeH H o.H) := rfl
theorem RoundOK.of {m N k : Nat} {b : Code} {live : List Nat} {nils : List (Nat × TypeId)} {s : List AV × Heap} {Q : Out → Prop} {T : List (CT P Γ)} {L : Nat → LSpec} {ip : Bool}
    (hL : ∀ (j : Nat) (b' : Code), (loopBodies b)[j]? = some b' → LoopOK P Γ m N b' (L (k + j))) {t : Tree Out} (e : roundE T L ip m k b live nils N s.1 s.2 = t) (h : t.sat Q) : RoundOK P Γ m N k b live nils s Q :=
  ⟨T, L, ip, hL, by rw [e]; exact h⟩
end
def lArg {α : Type} [Inhabited α] (c : α → List AV) (sz : Nat) : Option (List α) → AV
  | none => .v (.slice none 0 0)
  | some l => .sl sz l.length (lsF c l)
theorem V0.slCongr {σ : Store} {sz m m' : Nat} {f f' : Nat → List AV} {v : Value} (h : V0 σ (.sl sz m f) v) (hm : m' = m) (he : ∀ e, e < m → f' e = f e) (hl : ∀ e, (f' e).length = sz) (hk : mkd (f' m') = false) : V0 σ (.sl sz m' f') v := by
  subst hm
  cases h with
  | sl _ _ _ ad cap ys hs hn _ hm ho hv => exact .sl sz _ f' ad cap ys hs hn hl (fun e j c h1 h2 => hm e j c h1 (he e h1 ▸ h2)) (fun e j c h1 h2 => ho e j c h1 (he e h1 ▸ h2)) (fun e j c h1 h2 => hv e j c h1 (he e h1 ▸ h2))
  | slnil _ _ _ A cap _ hn ha => exact .slnil sz _ f' A cap hl hn (fun _ => hk)
section
open Go.ChangeShapes
variable {H : Type} {enc : TypeId × Value → H} {P : Program} {w : World} {base : Nat} {sp : Nat → Bool} {held : Bool}
theorem open_slO {α : Type} [Inhabited α] (D : Nat) (cells : α → List Value) (c : α → List AV) {ks : List Cel} {sz : Nat} (hsz : ks.length = sz) (hcl : ∀ a, (cells a).length = sz) (hc0 : ∀ a, (cells a).map AV.v = c a) (hdec : ∀ vs, GoodVs ks vs → ∃ a, vs = cells a) (hm : mkd (c default) = false)
    {t e : TypeId} {v : Value} {r : Reach} {b0 : Nat} {d : DataW H} {ps : List MemPlace} (ht : P.underlying t = some (.slice e)) (hk : ckT P D e = some ks) (hc : P.cellsOf e = sz)
    (hval : Value.okWide P w r b0 t v) (h : DataW.Trod enc P w base sp held t v d ps) :
    ∃ x : Option (List α), V0 (σof w) (lArg c sz x) v ∧ ∀ l, x = some l → ∀ i, i < l.length → GoodVs ks (cells (l.getD i default)) := by
  rcases open_slG D cells hsz hcl hdec ht hk hc hval h with rfl | ⟨m, g, h1, h2⟩
  · exact ⟨none, .v _, fun l h => by simp at h⟩
  · have hg : ∀ e, e < m → ((List.range m).map g).getD e default = g e := fun e he => by
      rw [List.getD_eq_getElem?_getD, List.getElem?_map, List.getElem?_range he]; rfl
    refine ⟨some ((List.range m).map g), h1.slCongr (by simp) (fun e he => ?_) (fun e => by show (c _).length = sz; rw [← hc0]; simp [hcl]) (by rw [lsF_at, List.getD_eq_getElem?_getD, List.getElem?_eq_none (Nat.le_refl _)]; exact hm), fun l hl i hi => ?_⟩
    · rw [lsF_at, hg e he, hc0]
    · simp only [Option.some.injEq] at hl
      subst hl
      have hi' : i < m := by simpa using hi
      rw [hg i hi']
      exact h2 i hi'
theorem open_slL {α : Type} [Inhabited α] (D : Nat) (cells : α → List Value) (c : α → List AV) {ks : List Cel} {sz : Nat} (hsz : ks.length = sz) (hcl : ∀ a, (cells a).length = sz) (hc0 : ∀ a, (cells a).map AV.v = c a) (hdec : ∀ vs, GoodVs ks vs → ∃ a, vs = cells a) (hm : mkd (c default) = false)
    {t e : TypeId} {v : Value} {r : Reach} {b0 : Nat} {d : DataW H} {ps : List MemPlace} (ht : P.underlying t = some (.slice e)) (hk : ckT P D e = some ks) (hc : P.cellsOf e = sz)
    (hval : Value.okWide P w r b0 t v) (h : DataW.Trod enc P w base sp held t v d ps) :
    ∃ l : List α, V0 (σof w) (.sl sz l.length (lsF c l)) v ∧ ∀ i, i < l.length → GoodVs ks (cells (l.getD i default)) := by
  obtain ⟨x, h1, h2⟩ := open_slO D cells c hsz hcl hc0 hdec hm ht hk hc hval h
  cases x with
  | none =>
    cases h1
    exact ⟨[], .slnil sz 0 _ none 0 (fun e => by show (c _).length = sz; rw [← hc0]; simp [hcl]) rfl (fun _ => hm), fun i hi => absurd hi (Nat.not_lt_zero i)⟩
  | some l => exact ⟨l, h1, h2 l rfl⟩
end
theorem failOK {P : Program} {Γ : Nat → AV} {m N : Nat} {c : Code} {L : Nat → LSpec} (h : ∀ j, ∀ vals H, (L j).spec vals H = .fail) : ∀ (j : Nat) (b : Code), (loopBodies c)[j]? = some b → LoopOK P Γ m N b (L j) := fun j b _ vals H o ho => by
  rw [h j] at ho; simp [Tree.get] at ho
section
variable {P : Program} {Γ : Nat → AV}
theorem Contract.res {f : FuncId} {args : List AV} {Hin : List Blk} {r r' : Res} (h : Contract P Γ f args Hin r) (hv : AV.le r.val r'.val) (hH : LeH (r.heap Hin) (r'.heap Hin)) : Contract P Γ f args Hin r' := by
  intro σ φ w vals hG hV hn hR
  exact (h σ φ w vals hG hV hn hR).mono fun e w' ⟨σ', φ', v, e1, e2, e3, e4, e5⟩ => ⟨σ', φ', v, e1, hv.v e2, e3.le (fun i b' hb => hH.get i b' hb), e4, fun k hk => e5 k (by rw [hH.len]; exact hk)⟩
noncomputable def cloneSpecL {α : Type} [Inhabited α] (c : α → List AV) (sz : Nat) (args : List AV) (Hin : List Blk) : Tree Res := match args with
  | [.hs i e n] => match Hin with
    | [.arr sz' N f] => .chk (Nat.beq i 0 && Nat.beq e 0 && Nat.beq sz' sz) (.chk (cl (n ≤ 1000000000 ∧ ∃ l junk : List α, n = l.length ∧ N = (l ++ junk).length ∧ ∀ e, f e = c ((l ++ junk).getD e default))) (.leaf { val := .hs 1 0 n, new := [.arr sz n f] }))
    | _ => .fail
  | _ => .fail
noncomputable def CT.clone {α : Type} [Inhabited α] {c : α → List AV} {sz : Nat} (hc : Cod c sz) (f : FuncId) (h : ∀ l junk : List α, l.length ≤ 1000000000 → Answers P Γ f [.hs 0 0 l.length] [.arr sz (l ++ junk).length (lsF c (l ++ junk))] (.hs 1 0 l.length) [some (.arr sz (l ++ junk).length (lsF c (l ++ junk)))] [.arr sz l.length (lsF c l)]) : CT P Γ where
  f := f
  spec := cloneSpecL c sz
  enters := (h [] [] (by simp)).enters
  ok := fun args Hin r hr => by
    unfold cloneSpecL at hr
    split at hr
    · split at hr
      · obtain ⟨h1, hr⟩ := Tree.chk_get hr
        obtain ⟨h2, hr⟩ := Tree.chk_get hr
        obtain rfl := Tree.leaf_get hr
        obtain ⟨hn, l, junk, rfl, rfl, hf⟩ := cl_iff.1 h2
        simp only [Bool.and_eq_true] at h1
        obtain rfl := Nat.eq_of_beq_eq_true h1.1.1
        obtain rfl := Nat.eq_of_beq_eq_true h1.1.2
        obtain rfl := Nat.eq_of_beq_eq_true h1.2
        obtain rfl : _ = lsF c (l ++ junk) := funext hf
        refine (h l junk hn).ok.res (.refl _) ⟨OLe.refl _, ?_, trivial⟩
        exact OLe.arr rfl (fun e he => by rw [lsF_at, lsF_at, getD_app he]) (fun e => hc.len _)
      · simp [Tree.get] at hr
    · simp [Tree.get] at hr
end
theorem twoLoops {P : Program} {Γ : Nat → AV} {m N : Nat} {c b b' : Code} {L : Nat → LSpec} (h : loopBodies c = [b, b']) (h0 : LoopOK P Γ m N b (L 0)) (h1 : LoopOK P Γ m N b' (L 1)) : ∀ (j : Nat) (b : Code), (loopBodies c)[j]? = some b → LoopOK P Γ m N b (L j) := by
  intro j b hj
  rw [h] at hj
  match j, hj with
  | 0, hj => simp at hj; subst hj; exact h0
  | 1, hj => simp at hj; subst hj; exact h1
  | j + 2, hj => simp at hj
theorem threeLoops {P : Program} {Γ : Nat → AV} {m N : Nat} {c b b' b2 : Code} {L : Nat → LSpec} (h : loopBodies c = [b, b', b2]) (h0 : LoopOK P Γ m N b (L 0)) (h1 : LoopOK P Γ m N b' (L 1)) (h2 : LoopOK P Γ m N b2 (L 2)) : ∀ (j : Nat) (b : Code), (loopBodies c)[j]? = some b → LoopOK P Γ m N b (L j) := by
  intro j b hj
  rw [h] at hj
  match j, hj with
  | 0, hj => simp at hj; subst hj; exact h0
  | 1, hj => simp at hj; subst hj; exact h1
  | 2, hj => simp at hj; subst hj; exact h2
  | j + 3, hj => simp at hj
section
variable {P : Program} {Γ : Nat → AV}
noncomputable def parSpec {X : Type} (ext : List AV → List Blk → Option X) (pre : X → Prop) (A : X → List AV) (H0 : X → List Blk) (v : X → AV) (H1 : X → List (Option Blk)) (new : X → List Blk) (args : List AV) (Hin : List Blk) : Tree Res :=
  match ext args Hin with
  | some x => .chk (cl (pre x ∧ LeL args (A x) ∧ LeH (Hin.map some) ((H0 x).map some))) (.leaf { val := v x, upd := (H1 x).map some, new := new x })
  | none => .fail
noncomputable def CT.par {X : Type} (f : FuncId) (ext : List AV → List Blk → Option X) (pre : X → Prop) (A : X → List AV) (H0 : X → List Blk) (v : X → AV) (H1 : X → List (Option Blk)) (new : X → List Blk)
    (enters : ∀ (args : Array Value) (w : World), (callFunc f args).run P w = .ok (.enter f args) w) (h : ∀ x, pre x → Answers P Γ f (A x) (H0 x) (v x) (H1 x) (new x)) : CT P Γ where
  f := f
  spec := parSpec ext pre A H0 v H1 new
  enters := enters
  ok := fun args Hin r hr => by
    unfold parSpec at hr
    split at hr
    · rename_i x hx
      obtain ⟨h1, hr⟩ := Tree.chk_get hr
      obtain ⟨hp, hv, hH⟩ := cl_iff.1 h1
      exact (CT.at f (h x hp)).ok args Hin r (by
        show (atSpec (A x) (H0 x) (v x) (H1 x) (new x) args Hin).get = some r
        unfold atSpec
        rw [cl_iff.2 ⟨hv, hH⟩]
        exact hr)
    · simp [Tree.get] at hr
end
theorem sat_brN {β : Type} {c : Bool} {t e : Tree β} {Q : β → Prop} : (Tree.br c t e).sat Q = ((c = true → t.sat Q) ∧ (¬ c = true → e.sat Q)) := by
  cases c <;> simp
theorem notT {b : Bool} : ((!b) = true) = ¬ (b = true) := by cases b <;> simp
end Go.Eng

namespace Go.Eng
open Go
section
variable {P : Program} {Γ : Nat → AV}
theorem getHmap (l : List Blk) (k : Nat) : getH (l.map some) k = l[k]? := by
  unfold getH
  rw [List.getElem?_map]
  cases l[k]? <;> rfl
theorem Contract.box {f : FuncId} {args : List AV} {Hin : List Blk} {i c sz : Nat} {cs : List AV} {g : Nat → List AV} {r r' : Res} (hg : Hin[i]? = some (.row cs)) (hc : cs[c]? = some (.v (.slice none 0 0))) (hz : ∀ e, (g e).length = sz)
    (h : Contract P Γ f args (Hin.set i (.row (cs.set c (.hs Hin.length 0 0))) ++ [.arr sz 0 g]) r) (hv : r'.val = r.val) (hh : r'.heap Hin = r.heap (Hin.set i (.row (cs.set c (.hs Hin.length 0 0))) ++ [.arr sz 0 g])) :
    Contract P Γ f args Hin r' := by
  intro σ φ w vals hG hV hn hR
  have hnb := hn Hin.length (Nat.le_refl _)
  let L0 : Lc := ⟨0, 0, sz, 0, 0, true⟩
  have hle := fresh_le hnb L0
  have hB : (fun b => ∃ k L, φ k = some L ∧ L.virt = false ∧ L.b = b) = (fun b => ∃ k L, fresh φ Hin.length L0 k = some L ∧ L.virt = false ∧ L.b = b) := by
    funext b
    refine propext ⟨fun ⟨k, L, h1, h2, h3⟩ => ⟨k, L, hle k L h1, h2, h3⟩, fun ⟨k, L, h1, h2, h3⟩ => ?_⟩
    by_cases e : k = Hin.length
    · subst e
      rw [fresh_at] at h1
      cases h1
      simp [L0] at h2
    · simp only [fresh, e, if_false] at h1
      exact ⟨k, L, h1, h2, h3⟩
  have hR1 := hR.virtual (L := L0) hnb rfl (some (.arr sz 0 g)) (fun b' hb' => by simp at hb'; subst hb'; exact hz) (fun _ _ _ h' => by cases h'; rfl)
  have hg1 : updG (getH (Hin.map some)) Hin.length (some (Blk.arr sz 0 g)) = getH (Hin.map some ++ [some (Blk.arr sz 0 g)]) := by
    have := fun j => getH_append (H := Hin.map some) (bs := [Blk.arr sz 0 g]) (k := j)
    funext j
    have h1 := this j
    rw [List.length_map] at h1
    exact h1.symm
  rw [hg1] at hR1
  have hil : i < Hin.length := (List.getElem?_eq_some_iff.1 hg).1
  have hg2 : getH (Hin.map some ++ [some (Blk.arr sz 0 g)]) i = some (.row cs) := by
    rw [← hg1]
    have : i ≠ Hin.length := by omega
    simp only [updG, this, if_false]
    rw [getHmap, hg]
  have hR2 := hR1.setRow (x' := .hs Hin.length 0 0) hg2 hc (fun y hy => by
    have := hy.v_eq
    subst this
    exact .hsnil none fresh_at (Nat.le_refl 0) rfl)
  have hH : (Hin.map some ++ [some (Blk.arr sz 0 g)]).set i (some (.row (cs.set c (.hs Hin.length 0 0)))) = (Hin.set i (.row (cs.set c (.hs Hin.length 0 0))) ++ [Blk.arr sz 0 g]).map some := by
    rw [List.set_append_left _ _ (by simpa using hil), List.map_append, List.map_set]
    rfl
  rw [hH] at hR2
  have hlen : (Hin.set i (.row (cs.set c (.hs Hin.length 0 0))) ++ [Blk.arr sz 0 g]).length = Hin.length + 1 := by simp
  rw [hB] at hR2 ⊢
  refine (h σ (fresh φ Hin.length L0) w vals hG ⟨hV.1, fun j a y ha hy => (hV.2 j a y ha hy).mono (Store.le_refl σ) hle⟩ (fun k hk => ?_) hR2).mono fun e w' ⟨σ', φ', v, e1, e2, e3, e4, e5⟩ => ⟨σ', φ', v, e1, by rw [hv]; exact e2, by rw [hh]; exact e3, fun k hk => ?_, by rw [hh]; exact e5⟩
  · rw [hlen] at hk
    have : k ≠ Hin.length := by omega
    simp only [fresh, this, if_false]
    exact hn k (by omega)
  · rw [e4 k (by rw [hlen]; omega)]
    have : k ≠ Hin.length := by omega
    simp only [fresh, this, if_false]
theorem Answers.box {f : FuncId} {args : List AV} {Hin : List Blk} (i c : Nat) {sz : Nat} {cs : List AV} {g : Nat → List AV} {v : AV} {H1 : List (Option Blk)} {b : Blk} {new : List Blk} (hg : Hin[i]? = some (.row cs)) (hc : cs[c]? = some (.v (.slice none 0 0))) (hz : ∀ e, (g e).length = sz) (hl : H1.length = Hin.length)
    (h : Answers P Γ f args (Hin.set i (.row (cs.set c (.hs Hin.length 0 0))) ++ [.arr sz 0 g]) v (H1 ++ [some b]) new) : Answers P Γ f args Hin v H1 (b :: new) where
  len := hl
  enters := h.enters
  ok := h.ok.box hg hc hz rfl (by
    show outOf Hin (H1.map some) ++ _ = outOf _ ((H1 ++ [some b]).map some) ++ _
    rw [outOf_all _ _ hl, outOf_all _ _ (by simp [hl])]
    simp)
end
section
open Go.ChangeShapes Go.RowKit
variable {H : Type} {enc : TypeId × Value → H} {P : Program} {w : World} {base : Nat} {spare : Nat → Bool} {held : Bool}
theorem trodAll_five {t0 t1 t2 t3 t4 : TypeId} {args : Array Value} {ds : List (DataW H)} {ps : List MemPlace} (h : DataW.TrodAll enc P w base spare held [t0, t1, t2, t3, t4] args.toList ds ps) :
    ∃ v0 v1 v2 v3 v4 d0 d1 d2 d3 d4 p0 p1 p2 p3 p4, args = #[v0, v1, v2, v3, v4] ∧ ds = [d0, d1, d2, d3, d4] ∧ ps = p0 ++ p1 ++ p2 ++ p3 ++ p4 ∧ DataW.Trod enc P w base spare held t0 v0 d0 p0 ∧ DataW.Trod enc P w base spare held t1 v1 d1 p1 ∧
      DataW.Trod enc P w base spare held t2 v2 d2 p2 ∧ DataW.Trod enc P w base spare held t3 v3 d3 p3 ∧ DataW.Trod enc P w base spare held t4 v4 d4 p4 := by
  obtain ⟨v0, s0, d0, e0, p0, q0, hargs, rfl, rfl, h0, r0⟩ := trodAll_cons h
  obtain ⟨v1, s1, d1, e1, p1, q1, rfl, rfl, rfl, h1, r1⟩ := trodAll_cons r0
  obtain ⟨v2, s2, d2, e2, p2, q2, rfl, rfl, rfl, h2, r2⟩ := trodAll_cons r1
  obtain ⟨v3, s3, d3, e3, p3, q3, rfl, rfl, rfl, h3, r3⟩ := trodAll_cons r2
  obtain ⟨v4, s4, d4, e4, p4, q4, rfl, rfl, rfl, h4, r4⟩ := trodAll_cons r3
  obtain ⟨rfl, rfl, rfl⟩ := trodAll_nil r4
  exact ⟨v0, v1, v2, v3, v4, d0, d1, d2, d3, d4, p0, p1, p2, p3, p4, by cases args; simp_all, rfl, by simp, h0, h1, h2, h3, h4⟩
end
end Go.Eng

namespace Go.Eng
open Go
section
open Go.ChangeShapes Go.RowKit
variable {H : Type} {enc : TypeId × Value → H} {P : Program} {w : World} {base : Nat} {spare : Nat → Bool} {held : Bool}
theorem trodAll_six {t0 t1 t2 t3 t4 t5 : TypeId} {args : Array Value} {ds : List (DataW H)} {ps : List MemPlace} (h : DataW.TrodAll enc P w base spare held [t0, t1, t2, t3, t4, t5] args.toList ds ps) :
    ∃ v0 v1 v2 v3 v4 v5 d0 d1 d2 d3 d4 d5 p0 p1 p2 p3 p4 p5, args = #[v0, v1, v2, v3, v4, v5] ∧ ds = [d0, d1, d2, d3, d4, d5] ∧ ps = p0 ++ p1 ++ p2 ++ p3 ++ p4 ++ p5 ∧ DataW.Trod enc P w base spare held t0 v0 d0 p0 ∧ DataW.Trod enc P w base spare held t1 v1 d1 p1 ∧
      DataW.Trod enc P w base spare held t2 v2 d2 p2 ∧ DataW.Trod enc P w base spare held t3 v3 d3 p3 ∧ DataW.Trod enc P w base spare held t4 v4 d4 p4 ∧ DataW.Trod enc P w base spare held t5 v5 d5 p5 := by
  obtain ⟨v0, s0, d0, e0, p0, q0, hargs, rfl, rfl, h0, r0⟩ := trodAll_cons h
  obtain ⟨v1, s1, d1, e1, p1, q1, rfl, rfl, rfl, h1, r1⟩ := trodAll_cons r0
  obtain ⟨v2, s2, d2, e2, p2, q2, rfl, rfl, rfl, h2, r2⟩ := trodAll_cons r1
  obtain ⟨v3, s3, d3, e3, p3, q3, rfl, rfl, rfl, h3, r3⟩ := trodAll_cons r2
  obtain ⟨v4, s4, d4, e4, p4, q4, rfl, rfl, rfl, h4, r4⟩ := trodAll_cons r3
  obtain ⟨v5, s5, d5, e5, p5, q5, rfl, rfl, rfl, h5, r5⟩ := trodAll_cons r4
  obtain ⟨rfl, rfl, rfl⟩ := trodAll_nil r5
  exact ⟨v0, v1, v2, v3, v4, v5, d0, d1, d2, d3, d4, d5, p0, p1, p2, p3, p4, p5, by cases args; simp_all, rfl, by simp, h0, h1, h2, h3, h4, h5⟩
end
end Go.Eng

namespace Go.Eng
open Go
section
variable {P : Program} {Γ : Nat → AV}
def ofS : List AV → List Blk → Option ByteArray
  | [.v (.string s)], [] => some s
  | _, _ => none
def ofSI : List AV → List Blk → Option (ByteArray × Int)
  | [.v (.string s), .v (.int _ n)], [] => some (s, n)
  | _, _ => none
def ofSS : List AV → List Blk → Option (ByteArray × ByteArray)
  | [.v (.string s), .v (.string t)], [] => some (s, t)
  | _, _ => none
def ofI : List AV → List Blk → Option Int
  | [.v (.int _ n)], [] => some n
  | _, _ => none
noncomputable def CT.oS (f : FuncId) {fn : Func} (hf : P.funcs[f]? = some fn) (hb : fn.body.isSome = true) (hn : (fn.name == "runtime.NumGoroutine") = false) (pre : ByteArray → Prop) (g : ByteArray → AV) (new : ByteArray → List Blk)
    (h : ∀ s, pre s → Answers P Γ f [.v (.string s)] [] (g s) [] (new s)) : CT P Γ :=
  CT.par f ofS pre (fun s => [.v (.string s)]) (fun _ => []) g (fun _ => []) new (callFunc_enters hf hb hn) h
noncomputable def CT.oSI (f : FuncId) {fn : Func} (hf : P.funcs[f]? = some fn) (hb : fn.body.isSome = true) (hn : (fn.name == "runtime.NumGoroutine") = false) (pre : ByteArray × Int → Prop) (g : ByteArray × Int → AV) (new : ByteArray × Int → List Blk)
    (h : ∀ x : ByteArray × Int, pre x → Answers P Γ f [.v (.string x.1), .v (.int .i64 x.2)] [] (g x) [] (new x)) : CT P Γ :=
  CT.par f ofSI pre (fun x => [.v (.string x.1), .v (.int .i64 x.2)]) (fun _ => []) g (fun _ => []) new (callFunc_enters hf hb hn) h
noncomputable def CT.oSS (f : FuncId) {fn : Func} (hf : P.funcs[f]? = some fn) (hb : fn.body.isSome = true) (hn : (fn.name == "runtime.NumGoroutine") = false) (pre : ByteArray × ByteArray → Prop) (g : ByteArray × ByteArray → AV) (new : ByteArray × ByteArray → List Blk)
    (h : ∀ x : ByteArray × ByteArray, pre x → Answers P Γ f [.v (.string x.1), .v (.string x.2)] [] (g x) [] (new x)) : CT P Γ :=
  CT.par f ofSS pre (fun x => [.v (.string x.1), .v (.string x.2)]) (fun _ => []) g (fun _ => []) new (callFunc_enters hf hb hn) h
noncomputable def CT.oI (f : FuncId) (k : IntKind) {fn : Func} (hf : P.funcs[f]? = some fn) (hb : fn.body.isSome = true) (hn : (fn.name == "runtime.NumGoroutine") = false) (pre : Int → Prop) (g : Int → AV) (new : Int → List Blk)
    (h : ∀ n, pre n → Answers P Γ f [.v (.int k n)] [] (g n) [] (new n)) : CT P Γ :=
  CT.par f ofI pre (fun n => [.v (.int k n)]) (fun _ => []) g (fun _ => []) new (callFunc_enters hf hb hn) h
theorem tup2 {a b a' b' : AV} (h1 : AV.le a a') (h2 : AV.le b b') : AV.le (.tup [a, b]) (.tup [a', b']) := le_tup ⟨h1, h2, trivial⟩
theorem tup3 {a b c a' b' c' : AV} (h1 : AV.le a a') (h2 : AV.le b b') (h3 : AV.le c c') : AV.le (.tup [a, b, c]) (.tup [a', b', c']) := le_tup ⟨h1, h2, h3, trivial⟩
theorem leI {k : IntKind} {a b : Int} (h : a = b) : AV.le (.v (.int k a)) (.v (.int k b)) := by rw [h]; exact .refl _
theorem leS {a b : ByteArray} (h : a = b) : AV.le (.v (.string a)) (.v (.string b)) := by rw [h]; exact .refl _
theorem leB {a b : Bool} (h : a = b) : AV.le (.v (.bool a)) (.sb b) := by rw [h]; exact .bs _
theorem leB' {a b : Bool} (h : a = b) : AV.le (.sb a) (.sb b) := by rw [h]; exact .refl _
end
end Go.Eng
namespace Go.Eng
open Go
theorem wC {β : Type} {c : Bool} {t : Tree β} {Q : β → Prop} (h : c = true) (k : t.sat Q) : (Tree.chk c t).sat Q := ⟨h, k⟩
theorem wT {β : Type} {c : Bool} {t e : Tree β} {Q : β → Prop} (h : c = true) (k : t.sat Q) : (Tree.br c t e).sat Q := by subst h; exact ⟨fun _ => k, fun h => by cases h⟩
theorem wS {β : Type} {c : Bool} {t e : Tree β} {Q : β → Prop} (h : c = true → t.sat Q) (k : ¬ c = true → e.sat Q) : (Tree.br c t e).sat Q := ⟨h, fun h' => k (by rw [h']; decide)⟩
theorem wF {β : Type} {c : Bool} {t e : Tree β} {Q : β → Prop} (h : ¬ c = true) (k : e.sat Q) : (Tree.br c t e).sat Q := ⟨fun h' => absurd h' h, fun _ => k⟩
theorem condIT {c a b : Bool} : ((bif c then a else b) = true) = ((c = true ∧ a = true) ∨ (¬ (c = true) ∧ b = true)) := by
  cases c <;> simp
theorem W1 : (∀ p : Prop, cl p = true ↔ p) ∧ (∀ x : AV, AV.le x x = True) ∧ (∀ x : AV, AV.le x .any = True) ∧ (∀ x : Option Blk, OLe x x = True) ∧
    (∀ (x : Option Blk) (xs : Heap) (y : Option Blk) (ys : Heap), LeH (x :: xs) (y :: ys) = (OLe x y ∧ LeH xs ys)) ∧ (LeH [] [] = True) ∧
    (∀ (x : AV) (xs : List AV) (y : AV) (ys : List AV), LeL (x :: xs) (y :: ys) = (AV.le x y ∧ LeL xs ys)) ∧ (LeL [] [] = True) ∧ (∀ p : Prop, (p ∧ True) = p) ∧ (∀ p : Prop, (True ∧ p) = p) ∧
    (∀ a b : Bool, ((a && b) = true) = (a = true ∧ b = true)) ∧ (∀ a b : Bool, ((a || b) = true) = (a = true ∨ b = true)) ∧ (∀ (p : Prop) [Decidable p], (decide p = true) = p) ∧
    (∀ b : Bool, ((!b) = true) = ¬ (b = true)) ∧ (∀ c b : Bool, (bif c then true else b) = (c || b)) ∧ (∀ c b : Bool, (bif c then b else false) = (c && b)) ∧
    (∀ n m : Nat, (Nat.blt n m = true) = (n < m)) ∧ (∀ n : Nat, 0 + n = n) ∧ (∀ n : Nat, Int.toNat (n : Int) = n) ∧ (!true) = false ∧ (!false) = true ∧ ((false = true) = False) ∧
    ((¬ True) = False) ∧ ((¬ False) = True) ∧ (∀ p : Prop, (p ∨ False) = p) ∧ (∀ p : Prop, (False ∨ p) = p) ∧ (∀ p : Prop, (p ∨ True) = True) ∧ (∀ p : Prop, (True ∨ p) = True) ∧
    (∀ p : Prop, (p ∧ False) = False) ∧ (∀ p : Prop, (False ∧ p) = False) ∧ (∀ c a b : Bool, ((bif c then a else b) = true) = ((c = true ∧ a = true) ∨ (¬ (c = true) ∧ b = true))) := by
  refine ⟨fun p => cl_iff, fun x => eq_true (.refl x), fun x => eq_true (.any x), fun x => eq_true (OLe.refl x), fun x xs y ys => rfl, rfl, fun x xs y ys => rfl, rfl, and_true, true_and, fun a b => Bool.and_eq_true a b, fun a b => Bool.or_eq_true a b, fun p _ => decide_eq_true_eq, fun b => notT, fun c b => Bool.cond_true_left c b, fun c b => Bool.cond_false_right c b, fun n m => Nat.blt_eq, Nat.zero_add, Int.toNat_natCast, rfl, rfl, Bool.false_eq_true, not_true_eq_false, not_false_eq_true, or_false, false_or, or_true, true_or, and_false, false_and, fun c a b => condIT⟩
theorem W2 : ((true = false) = False) ∧ (∀ p : Prop, (False → p) = True) ∧ (∀ p : Prop, (True → p) = p) ∧ (∀ p : Prop, (p → True) = True) ∧ (∀ {β : Type} (t e : Tree β) (Q : β → Prop), (Tree.br true t e).sat Q = t.sat Q) ∧
    (∀ {β : Type} (t e : Tree β) (Q : β → Prop), (Tree.br false t e).sat Q = e.sat Q) ∧ (∀ {β : Type} (c : Bool) (t e : Tree β) (Q : β → Prop), (Tree.br c t e).sat Q = ((c = true → t.sat Q) ∧ (¬ c = true → e.sat Q))) ∧
    (∀ {β : Type} (c : Bool) (t : Tree β) (Q : β → Prop), (Tree.chk c t).sat Q = (c = true ∧ t.sat Q)) ∧ (∀ {β : Type} (a : β) (Q : β → Prop), (Tree.leaf a).sat Q = Q a) ∧ (∀ {β : Type} (Q : β → Prop), (Tree.fail : Tree β).sat Q = False) ∧
    (∀ p : Prop, cl p = false ↔ ¬ p) ∧ (∀ x : Option Blk, OLe x none = True) ∧ (∀ n : Nat, n - 0 = n) ∧ (∀ (p : Prop) [Decidable p], (decide p = false) ↔ ¬ p) ∧ (∀ (x : AV) (xs ys : List AV), (x :: xs) ++ ys = x :: (xs ++ ys)) ∧ (∀ ys : List AV, [] ++ ys = ys) ∧
    (∀ (x : Option Blk) (xs ys : Heap), (x :: xs) ++ ys = x :: (xs ++ ys)) ∧ (∀ ys : Heap, [] ++ ys = ys) ∧ (∀ (f : Blk → Option Blk) (x : Blk) (xs : List Blk), (x :: xs).map f = f x :: xs.map f) ∧ (∀ f : Blk → Option Blk, ([] : List Blk).map f = []) := by
  refine ⟨Bool.true_eq_false, false_implies, true_implies, fun p => implies_true p, fun t e Q => sat_brT, fun t e Q => sat_brF, fun c t e Q => sat_brN, fun c t Q => rfl, fun a Q => rfl, fun Q => rfl, fun p => cl_false, fun x => eq_true (OLe.none x), Nat.sub_zero, fun p _ => decide_eq_false_iff_not, fun _ _ _ => rfl, fun _ => rfl, fun _ _ _ => rfl, fun _ => rfl, fun _ _ _ => rfl, fun _ => rfl⟩
end Go.Eng

namespace Go.Eng
open Go Go.ChangeShapes
section
variable {H : Type} {enc : TypeId × Value → H} {P : Program} {w : World} {base : Nat} {sp : Nat → Bool} {held : Bool}
theorem trod_sl {α : Type} [Inhabited α] (c : α → List AV) {sz : Nat} (E : α → List Value → Prop) {e : TypeId} (hz : 0 < sz) (hc : P.cellsOf e = sz) (hm : mkd (c default) = false) (hcl : ∀ a, (c a).length = sz)
    (hE : ∀ fuel cs x, DataW.trod enc P w base sp held fuel e cs = some x → ∃ a, E a cs)
    (hV : ∀ a cs, E a cs → ∀ (j : Nat) (x : AV) (y : Value), (c a)[j]? = some x → cs[j]? = some y → V0 (σof w) x y ∧ y.oneCell' = true)
    {t : TypeId} {fuel : Nat} {cs : List Value} {x : DataW H × List MemPlace} (ht : P.underlying t = some (.slice e)) (h : DataW.trod enc P w base sp held fuel t cs = some x) :
    ∃ (v : Value) (l : List α), cs = [v] ∧ V0 (σof w) (.sl sz l.length (lsF c l)) v ∧ v.oneCell' = true ∧ ∀ i, i < l.length → ∃ vs, E (l.getD i default) vs := by
  have hd : ∀ e, (lsF c ([] : List α) e).length = sz := fun e => hcl _
  rcases DataW.trod_slice ht h with ⟨rfl, _⟩ | ⟨a, len, cap, elems, rest, n, _, rfl, _, hb, hl, hmx, hlen, hel, _, _⟩
  · exact ⟨_, [], rfl, .slnil sz 0 _ none 0 hd rfl (fun _ => hm), rfl, fun i hi => absurd hi (Nat.not_lt_zero _)⟩
  by_cases h0 : len = 0
  · subst h0
    exact ⟨_, [], rfl, .slnil sz 0 _ (some a) cap hd rfl (fun e => by cases e), rfl, fun i hi => absurd hi (Nat.not_lt_zero _)⟩
  have got : ∀ i, i < len → ∃ cs, w.cells? base (a.add (i * P.cellsOf e)) (P.cellsOf e) = some cs ∧ ∃ x, DataW.trod enc P w base sp held n e cs = some x := by
    intro i hi
    have h2 := hel i hi
    rw [List.getElem?_eq_getElem (by omega), Option.bind_eq_some_iff] at h2
    obtain ⟨cs, h3, h4⟩ := h2
    exact ⟨cs, h3, _, h4⟩
  have hsp : a.spot = none := by
    obtain ⟨cs, h3, _⟩ := got 0 (by omega)
    obtain ⟨_, h4, h5⟩ := World.cells?_some h3
    have h6 := h5 0 (by omega)
    rw [Nat.zero_mul] at h6
    have e1 : (a.add 0).add 0 = a := by unfold Addr.add; simp
    rw [e1, List.getElem?_eq_getElem (by omega)] at h6
    unfold World.cell? at h6
    split at h6
    · split at h6
      · cases h6
      · rename_i hs
        cases hsx : a.spot with
        | none => rfl
        | some _ => rw [hsx] at hs; simp at hs
    · cases h6
  have each : ∀ i, i < len → ∃ u : α, ∃ vs, E u vs ∧ vs.length = sz ∧ ∀ (j : Nat) (y : Value), vs[j]? = some y → σof w a.block (a.off + i * sz + j) = some y := by
    intro i hi
    obtain ⟨cs, h3, x, h4⟩ := got i hi
    obtain ⟨u, hu⟩ := hE n cs x h4
    obtain ⟨_, k1, k2⟩ := World.cells?_some h3
    refine ⟨u, cs, hu, by rw [k1, hc], fun j y hj => ?_⟩
    have hjl : j < sz := by have := (List.getElem?_eq_some_iff.1 hj).1; rw [k1, hc] at this; exact this
    have h5 := k2 j (by rw [hc]; exact hjl)
    rw [hj] at h5
    have e2 : (a.add (i * P.cellsOf e)).add j = ⟨a.block, a.off + i * sz + j, none⟩ := by
      rw [hc]
      unfold Addr.add
      obtain ⟨ab, ao, asp⟩ := a
      simp only at hsp
      subst hsp
      by_cases h0 : i * sz = 0
      · by_cases h1 : j = 0
        · simp [h0, h1]
        · simp [h0, h1]
      · by_cases h1 : j = 0
        · simp [h0, h1]
        · simp [h0, h1]
    rw [e2] at h5
    exact σof_of h5
  let g : Nat → α := fun i => if h : i < len then (each i h).choose else default
  have hg : ∀ i, i < len → ((List.range len).map g).getD i default = g i := fun i hi => by
    rw [List.getD_eq_getElem?_getD, List.getElem?_map, List.getElem?_range hi]; rfl
  have spec : ∀ i (hi : i < len), ∃ vs, E (g i) vs ∧ vs.length = sz ∧ ∀ (j : Nat) (y : Value), vs[j]? = some y → σof w a.block (a.off + i * sz + j) = some y := fun i hi => by
    show ∃ vs, E (if h : i < len then (each i h).choose else default) vs ∧ _
    rw [dif_pos hi]
    exact (each i hi).choose_spec
  refine ⟨_, (List.range len).map g, rfl, ?_, rfl, fun i hi => ?_⟩
  · have hln : ((List.range len).map g).length = len := by simp
    rw [hln]
    have at' : ∀ (e j : Nat) (x : AV), e < len → (lsF c ((List.range len).map g) e)[j]? = some x → ∃ y, σof w a.block (a.off + e * sz + j) = some y ∧ V0 (σof w) x y ∧ y.oneCell' = true := by
      intro e j x he hj
      rw [lsF_at, hg e he] at hj
      obtain ⟨vs, k1, k2, k3⟩ := spec e he
      have hjl : j < sz := by have := (List.getElem?_eq_some_iff.1 hj).1; rw [hcl] at this; exact this
      have hy : vs[j]? = some vs[j] := List.getElem?_eq_getElem (by omega)
      obtain ⟨k4, k5⟩ := hV _ _ k1 j x _ hj hy
      exact ⟨_, k3 j _ hy, k4, k5⟩
    have hval : ∀ (e j : Nat) (x : AV) (he : e < len) (hj : (lsF c ((List.range len).map g) e)[j]? = some x), σof w a.block (a.off + e * sz + j) = some ((σof w a.block (a.off + e * sz + j)).getD (.bool false)) ∧ V0 (σof w) x ((σof w a.block (a.off + e * sz + j)).getD (.bool false)) ∧ ((σof w a.block (a.off + e * sz + j)).getD (.bool false)).oneCell' = true := by
      intro e j x he hj
      obtain ⟨y, h1, h2, h3⟩ := at' e j x he hj
      rw [h1]
      exact ⟨rfl, h2, h3⟩
    exact .sl sz len _ a cap (fun e j => (σof w a.block (a.off + e * sz + j)).getD (.bool false)) hsp hl (fun i => hcl _) (fun e j x he hj => (hval e j x he hj).1) (fun e j x he hj => (hval e j x he hj).2.2) (fun e j x he hj => (hval e j x he hj).2.1)
  · have hi' : i < len := by simpa using hi
    rw [hg i hi']
    obtain ⟨vs, k1, _⟩ := spec i hi'
    exact ⟨vs, k1⟩
theorem flatE_V {α : Type} {cells : α → List Value} {c : α → List AV} {ks : List Cel} (hc0 : ∀ a, (cells a).map AV.v = c a) {σ : Store} (a : α) (cs : List Value) (h : cs = cells a ∧ GoodVs ks cs) (j : Nat) (x : AV) (y : Value) (hx : (c a)[j]? = some x) (hy : cs[j]? = some y) : V0 σ x y ∧ y.oneCell' = true := by
  obtain ⟨rfl, hg⟩ := h
  rw [← hc0, List.getElem?_map, hy] at hx
  simp only [Option.map_some, Option.some.injEq] at hx
  subst hx
  obtain ⟨k, hk⟩ := hg.at j y hy
  exact ⟨.v _, goodV_one hk⟩
theorem trod_three {fuel : Nat} {t : TypeId} {fs : Array Field} {f0 f1 f2 : Field} {cs : List Value} {x : DataW H × List MemPlace} {n0 n1 n2 : Nat} (hu : P.underlying t = some (.struct fs)) (hfs : fs.toList = [f0, f1, f2])
    (h0 : f0.offset = 0) (h1 : f1.offset = n0) (h2 : f2.offset = n0 + n1) (s0 : P.cellsOf f0.type = n0) (s1 : P.cellsOf f1.type = n1) (s2 : P.cellsOf f2.type = n2) (st : P.cellsOf t = n0 + n1 + n2)
    (h : DataW.trod enc P w base sp held fuel t cs = some x) :
    ∃ p0 p1 p2 fu y0 y1 y2, cs = p0 ++ p1 ++ p2 ∧ DataW.trod enc P w base sp held fu f0.type p0 = some y0 ∧ DataW.trod enc P w base sp held fu f1.type p1 = some y1 ∧ DataW.trod enc P w base sp held fu f2.type p2 = some y2 := by
  cases fuel with
  | zero => simp [DataW.trod] at h
  | succ fu =>
    obtain ⟨hl, r, hr⟩ := trod_struct hu h
    rw [hfs] at hr
    obtain ⟨y0, r0, k0, hr, _⟩ := mapM_head hr
    obtain ⟨y1, r1, k1, hr, _⟩ := mapM_head hr
    obtain ⟨y2, r2, k2, hr, _⟩ := mapM_head hr
    rw [h0, s0, List.drop_zero] at k0
    rw [h1, s1] at k1
    rw [h2, s2] at k2
    refine ⟨_, _, _, fu, y0, y1, y2, ?_, k0, k1, k2⟩
    rw [List.append_assoc, ← List.drop_drop]
    have e2 : List.take n2 (List.drop n1 (List.drop n0 cs)) = List.drop n1 (List.drop n0 cs) := List.take_of_length_le (by simp; omega)
    rw [e2, List.take_append_drop, List.take_append_drop]
end
end Go.Eng

namespace Go.Eng
open Go
section
variable {α : Type} [Inhabited α] {c : α → List AV} {sz : Nat}
theorem getD_setI {L : List α} {i j : Nat} {t : α} (hi : i < L.length) : (L.set i t).getD j default = if j = i then t else L.getD j default := by
  rw [List.getD_eq_getElem?_getD, List.getElem?_set]
  by_cases h : i = j
  · subst h; simp [hi]
  · have h' : ¬ j = i := fun e => h e.symm
    rw [if_neg h, if_neg h', List.getD_eq_getElem?_getD]
theorem Cod.set (h : Cod c sz) (L : List α) {i N : Nat} (t : α) (hi : i < L.length) (hN : N = L.length) :
    OLe (some (.arr sz N fun k => mixL (Nat.beq k i) (c t) (lsF c L k))) (some (.arr sz (L.set i t).length (lsF c (L.set i t)))) := by
  refine h.row (by simp [hN]) fun e he => ?_
  simp only [lsF_at, h.mix]
  refine congrArg c ?_
  rw [getD_setI hi]
  by_cases hk : e = i
  · subst hk; simp
  · have : Nat.beq e i = false := by
      cases hb : Nat.beq e i with
      | false => rfl
      | true => exact absurd (Nat.eq_of_beq_eq_true hb) hk
    rw [this, if_neg hk]; rfl
theorem Cod.clr (h : Cod c sz) (L : List α) (z : α) {i n N m : Nat} (hN : N = L.length) (hn : n ≤ L.length) (hi : i ≤ n) (hm : m = n - i) :
    OLe (some (.arr sz N fun k => mixL (decide (i ≤ k) && decide (k < i + m)) (c z) (lsF c L k))) (some (.arr sz (L.take i ++ (List.replicate (n - i) z ++ L.drop n)).length (lsF c (L.take i ++ (List.replicate (n - i) z ++ L.drop n))))) := by
  refine h.row (by simp [hN]; omega) fun e he => ?_
  simp only [lsF_at, h.mix]
  refine congrArg c ?_
  have hti : (L.take i).length = i := by simp; omega
  rw [cond_eq_ite]
  simp only [Bool.and_eq_true, decide_eq_true_eq]
  by_cases h1 : e < i
  · rw [if_neg (by omega), getD_app (by omega), List.getD_eq_getElem?_getD, List.getD_eq_getElem?_getD, List.getElem?_take, if_pos h1]
  · rw [getD_app' (by omega), hti]
    by_cases h2 : e < n
    · rw [if_pos (by omega), getD_app (by simp; omega), List.getD_eq_getElem?_getD, List.getElem?_replicate, if_pos (by omega)]; rfl
    · rw [if_neg (by omega), getD_app' (by simp; omega), List.length_replicate, List.getD_eq_getElem?_getD, List.getD_eq_getElem?_getD, List.getElem?_drop]
      congr 2; omega
def fD (p : α → Bool) : List α → Nat
  | [] => 0
  | t :: l => bif p t then 0 else fD p l + 1
theorem fD_le (p : α → Bool) : ∀ l : List α, fD p l ≤ l.length
  | [] => Nat.le_refl _
  | t :: l => by
    rw [fD]
    have := fD_le p l
    cases p t <;> simp <;> omega
theorem fD_filter (p : α → Bool) : ∀ l : List α, l.take (fD p l) = (l.take (fD p l)).filter (fun t => !p t)
  | [] => rfl
  | t :: l => by
    rw [fD]
    cases h : p t with
    | true => rfl
    | false =>
      simp only [cond_false, List.take_succ_cons, List.filter_cons, h, Bool.not_false, if_true]
      rw [← fD_filter p l]
theorem fD_at (p : α → Bool) : ∀ l : List α, fD p l < l.length → p (l.getD (fD p l) default) = true
  | [], h => absurd h (Nat.not_lt_zero _)
  | t :: l, h => by
    rw [fD] at h ⊢
    cases hp : p t with
    | true => rw [cond_true]; exact hp
    | false =>
      rw [hp, cond_false, List.length_cons] at h
      rw [cond_false]
      exact fD_at p l (by omega)
def dRun (p : α → Bool) : List α → Nat → List α → Nat × List α
  | [], i, L => (i, L)
  | t :: r, i, L => bif p t then dRun p r i L else dRun p r (i + 1) (L.set i t)
theorem dRun_ok (p : α → Bool) : ∀ (r : List α) (i j : Nat) (L : List α), i ≤ j → j + r.length ≤ L.length →
    (dRun p r i L).1 = i + (r.filter fun t => !p t).length ∧ (dRun p r i L).2.length = L.length ∧ (dRun p r i L).2.take (dRun p r i L).1 = L.take i ++ r.filter (fun t => !p t) ∧ (dRun p r i L).2.drop (j + r.length) = L.drop (j + r.length)
  | [], i, j, L, h1, h2 => by simp [dRun]
  | t :: r, i, j, L, h1, h2 => by
    rw [List.length_cons] at h2 ⊢
    rw [dRun]
    cases h : p t with
    | true =>
      rw [cond_true, List.filter_cons_of_neg (by simp [h])]
      obtain ⟨k1, k2, k3, k4⟩ := dRun_ok p r i (j + 1) L (by omega) (by omega)
      refine ⟨k1, k2, k3, ?_⟩
      rw [show j + (r.length + 1) = j + 1 + r.length by omega]; exact k4
    | false =>
      rw [cond_false, List.filter_cons_of_pos (by simp [h])]
      obtain ⟨k1, k2, k3, k4⟩ := dRun_ok p r (i + 1) (j + 1) (L.set i t) (by omega) (by simp; omega)
      refine ⟨by rw [k1, List.length_cons]; omega, by rw [k2, List.length_set], ?_, ?_⟩
      · rw [k3]
        have : (L.set i t).take (i + 1) = L.take i ++ [t] := by
          rw [List.take_add_one, List.take_set_of_le (Nat.le_refl _)]
          simp [show i < L.length by omega]
        rw [this, List.append_assoc]; rfl
      · rw [show j + (r.length + 1) = j + 1 + r.length by omega, k4, List.drop_set_of_lt (by omega)]
end
end Go.Eng

namespace Go.Eng
open Go
theorem mixU (c : Bool) (a b : Int) : mixL c [.v (.int .u8 a)] [.v (.int .u8 b)] = [.v (.int .u8 (bif c then a else b))] := by cases c <;> rfl
section
variable {P : Program} {Γ : Nat → AV}
theorem V.ptr_inv {σ : Store} {φ : Places} {i o : Nat} {y : Value} (h : V σ φ (.ptr i o) y) : ∃ L, φ i = some L ∧ L.virt = false := by
  cases h with
  | base h => cases h
  | ptr h hr => exact ⟨_, h, hr⟩
theorem V.hs_inv {σ : Store} {φ : Places} {i e n : Nat} {y : Value} (h : V σ φ (.hs i e n) y) : ∃ L, φ i = some L := by
  cases h with
  | base h => cases h
  | hs h hr => exact ⟨_, h⟩
  | hsnil A h => exact ⟨_, h⟩
theorem Answers.boxOut {f : FuncId} {args : List AV} {Hin : List Blk} {v : AV} {H1 : List (Option Blk)} {new : List Blk} (a i o j c c0 e0 n0 : Nat) {cs0 cs1 : List AV} {sz N : Nat} {g : Nat → List AV} (ha : args[a]? = some (.ptr i o)) (h0 : Hin[i]? = some (.row cs0)) (hc0 : cs0[c0]? = some (.hs j e0 n0))
    (hj : j < Hin.length) (h1 : H1[i]? = some (some (.row cs1))) (hc1 : cs1[c]? = some (.v (.slice none 0 0))) (hjr : H1[j]? = some (some (.arr sz N g))) (h : Answers P Γ f args Hin v H1 new) :
    Answers P Γ f args Hin v (H1.set i (some (.row (cs1.set c (.hs j N 0))))) new where
  len := by rw [List.length_set]; exact h.len
  enters := h.enters
  ok := by
    intro σ φ w vals hG hV hn hR
    have hlen := h.len
    have e0 : ({ val := v, upd := H1.map some, new := new } : Res).heap Hin = H1 ++ new.map some := by
      unfold Res.heap; rw [outOf_all _ _ hlen]
    have e1 : ({ val := v, upd := (H1.set i (some (.row (cs1.set c (.hs j N 0))))).map some, new := new } : Res).heap Hin = (H1 ++ new.map some).set i (some (.row (cs1.set c (.hs j N 0)))) := by
      unfold Res.heap
      rw [outOf_all _ _ (by rw [List.length_set]; exact hlen)]
      have hil : i < H1.length := (List.getElem?_eq_some_iff.1 h1).1
      rw [List.set_append_left _ _ hil]
    rw [e1]
    refine (h.ok σ φ w vals hG hV hn hR).mono fun e w' ⟨σ', φ', x, k1, k2, k3, k4, k5⟩ => ⟨σ', φ', x, k1, k2, ?_, k4, fun k hk => k5 k (by rw [e0]; rw [List.length_set] at hk; exact hk)⟩
    rw [e0] at k3
    obtain ⟨y, hy, hyv⟩ : ∃ y, vals.toList[a]? = some y ∧ V σ φ (.ptr i o) y := by
      have hal : a < args.length := (List.getElem?_eq_some_iff.1 ha).1
      have hal' : a < vals.toList.length := hV.1 ▸ hal
      exact ⟨_, List.getElem?_eq_getElem hal', hV.2 a _ _ ha (List.getElem?_eq_getElem hal')⟩
    obtain ⟨L, hL, hv⟩ := hyv.ptr_inv
    have hg0 : getH (Hin.map some) i = some (.row cs0) := by rw [getHmap, h0]
    obtain ⟨cc, _, _, _, hcell⟩ := hR.obj i _ L hg0 hL hv
    obtain ⟨yc, _, hyc⟩ := hcell c0 _ hc0
    obtain ⟨Lj, hLj⟩ := hyc.hs_inv
    have hLj' : φ' j = some Lj := by rw [k4 j hj]; exact hLj
    have hgj : getH (H1 ++ new.map some) j = some (.arr sz N g) := by
      unfold getH
      rw [List.getElem?_append_left (List.getElem?_eq_some_iff.1 hjr).1, hjr]
    have hgi : getH (H1 ++ new.map some) i = some (.row cs1) := by
      unfold getH
      rw [List.getElem?_append_left (List.getElem?_eq_some_iff.1 h1).1, h1]
    have hN := k3.len j Lj sz N g hgj hLj'
    refine k3.setRow hgi hc1 fun y hy => ?_
    obtain rfl := hy.v_eq
    exact .hsnil none hLj' (by omega) rfl
theorem Answers.nilSl {f : FuncId} {sz : Nat} {z : List AV} {g : Nat → List AV} (hz : z.length = sz) {M : List AV} (hM : M.length = sz) (h1 : ∀ cap, Answers P Γ f [.v (.slice none 0 cap)] [] (.v (.slice none 0 0)) [] [])
    (h2 : Answers P Γ f [.sl sz 0 fun _ => M] [] (.hs 0 0 0) [] [.arr sz 0 fun _ => z]) : Answers P Γ f [.sl sz 0 g] [] (.hs 0 0 0) [] [.arr sz 0 fun _ => z] where
  len := rfl
  enters := h2.enters
  ok := by
    intro σ φ w vals hG hV hn hR
    obtain ⟨y, hy, hv⟩ := hV.one_inv
    have hsl : ∀ (A : Option Addr) (cap : Nat), A ≠ none → y = .slice A 0 cap → VL σ φ [.sl sz 0 fun _ => M] vals.toList := fun A cap hA e => by
      rw [hy, e]
      exact .one (.base (.slnil sz 0 _ A cap (fun _ => hM) rfl (fun h => absurd h hA))) .none
    have hnil : ∀ cap : Nat, y = .slice none 0 cap → Calls P f vals w fun e w' => ∃ σ' φ' v, e = .returned v ∧ V σ' φ' (.hs 0 0 0) v ∧
      R ⟨w, σ, fun b => ∃ k L, φ k = some L ∧ L.virt = false ∧ L.b = b⟩ σ' φ' (getH (Res.heap [] { val := .hs 0 0 0, upd := [], new := [.arr sz 0 fun _ => z] })) w' ∧ (∀ k, k < 0 → φ' k = φ k) ∧ (∀ k, 1 ≤ k → φ' k = none) := fun cap he => by
      refine ((h1 cap).ok σ φ w vals hG (by rw [hy, he]; exact .one (V_v _) .none) hn hR).mono fun e w' ⟨σ', φ', v, e1, e2, e3, e4, e5⟩ => ?_
      have hnb : φ' 0 = none := e5 0 (Nat.le_refl 0)
      obtain rfl := e2.v_eq
      have hg : getH (Res.heap [] { val := .hs 0 0 0, upd := [], new := [.arr sz 0 fun _ => z] }) = updG (getH (Res.heap [] { val := .v (.slice none 0 0), upd := [] })) 0 (some (.arr sz 0 fun _ => z)) := by
        funext k
        exact getH_append (H := []) (bs := [Blk.arr sz 0 fun _ => z]) (k := k)
      refine ⟨σ', fresh φ' 0 ⟨0, 0, sz, 0, 0, true⟩, _, e1, .hsnil none fresh_at (Nat.le_refl 0) rfl, ?_, fun k hk => absurd hk (Nat.not_lt_zero k), fun k hk => ?_⟩
      · rw [hg]
        exact e3.virtual (L := ⟨0, 0, sz, 0, 0, true⟩) hnb rfl (some (.arr sz 0 fun _ => z)) (fun b' hb' => by simp at hb'; subst hb'; exact fun _ => hz) (fun _ _ _ h' => by cases h'; rfl)
      · have : k ≠ 0 := by omega
        simp only [fresh, this, if_false]
        exact e5 k (Nat.zero_le k)
    cases hv with
    | base h =>
      cases h with
      | sl _ _ _ ad cap ys hs => exact h2.ok σ φ w vals hG (hsl (some ad) cap (by simp) rfl) hn hR
      | slnil _ _ _ A cap hl _ ha =>
        by_cases hA : A = none
        · subst hA; exact hnil cap rfl
        · exact h2.ok σ φ w vals hG (hsl A cap hA rfl) hn hR
theorem Answers.cU {f : FuncId} {a0 : List AV} {H0 : List Blk} {v : AV} {H1 : List (Option Blk)} {new : List Blk} (h : Answers P Γ f a0 H0 v H1 new) {upd : List (Option (Option Blk))} (hu : outOf H0 upd = H1) : Contract P Γ f a0 H0 { val := v, upd := upd, new := new } :=
  h.ok.more (LeL.refl _) (LeH.refl _) (by
    unfold Res.heap
    rw [outOf_all _ _ h.len, hu]) rfl
noncomputable def exSpec {X : Type} (ext : List AV → List Blk → Option X) (pre : X → Prop) (v : X → AV) (upd : X → List (Option (Option Blk))) (new : X → List Blk) (args : List AV) (Hin : List Blk) : Tree Res :=
  match ext args Hin with
  | some x => .chk (cl (pre x)) (.leaf { val := v x, upd := upd x, new := new x })
  | none => .fail
noncomputable def CT.ex {X : Type} (f : FuncId) (ext : List AV → List Blk → Option X) (pre : X → Prop) (v : X → AV) (upd : X → List (Option (Option Blk))) (new : X → List Blk)
    (enters : ∀ (args : Array Value) (w : World), (callFunc f args).run P w = .ok (.enter f args) w) (h : ∀ args Hin x, ext args Hin = some x → pre x → Contract P Γ f args Hin { val := v x, upd := upd x, new := new x }) : CT P Γ where
  f := f
  spec := exSpec ext pre v upd new
  enters := enters
  ok := fun args Hin r hr => by
    unfold exSpec at hr
    split at hr
    · rename_i x hx
      obtain ⟨h1, hr⟩ := Tree.chk_get hr
      obtain rfl := Tree.leaf_get hr
      exact h args Hin x hx (cl_iff.1 h1)
    · simp [Tree.get] at hr
end
end Go.Eng

namespace Go.Eng
open Go Go.Lib
def bN (s : ByteArray) (i : Nat) : Nat := (s.data[i]?.getD 0).toNat
theorem sbyte_bN (s : ByteArray) (i : Nat) : sbyte s i = (bN s i : Int) := rfl
theorem bN_lt (s : ByteArray) (i : Nat) : bN s i < 256 := (s.data[i]?.getD 0).toNat_lt
theorem get_bN (s : ByteArray) (i : Nat) : (s.get! i).toNat = bN s i := by
  unfold bN
  cases s with
  | mk d =>
    show (d[i]!).toNat = _
    rw [getElem!_def]
    cases h : d[i]? <;> rfl
theorem bN_out {s : ByteArray} {i : Nat} (h : s.size ≤ i) : bN s i = 0 := by
  unfold bN
  rw [Array.getElem?_eq_none (by simpa using h)]; rfl
theorem decode_bN (s : ByteArray) (i : Nat) : Utf8.decode s i = decodeN (s.size - i) (bN s i) (bN s (i + 1)) (bN s (i + 2)) (bN s (i + 3)) := by
  rw [decode_at]; simp only [get_bN]
theorem bN_extract (s : ByteArray) (a b i : Nat) (hb : b ≤ s.size) : bN (s.extract a b) i = if a + i < b then bN s (a + i) else 0 := by
  unfold bN
  rw [ByteArray.data_extract]
  rw [Array.getElem?_extract]
  have : min b s.data.size = b := Nat.min_eq_left hb
  rw [this]
  by_cases h : a + i < b
  · rw [if_pos (by omega), if_pos h]
  · rw [if_neg (by omega), if_neg h]; rfl
theorem ext_size (s : ByteArray) (a b : Nat) (hb : b ≤ s.size) : (s.extract a b).size = b - a := by
  rw [ByteArray.size_extract, Nat.min_eq_left hb]
theorem bN_append (a b : ByteArray) (j : Nat) : bN (a ++ b) j = if j < a.size then bN a j else bN b (j - a.size) := by
  have := sbyte_append a b j
  simp only [sbyte_bN] at this
  split at this <;> rename_i h
  · rw [if_pos h]; omega
  · rw [if_neg h]; omega
theorem bN_eq {a b : ByteArray} (hs : a.size = b.size) (h : ∀ j, j < a.size → bN a j = bN b j) : a = b :=
  bs_eq hs fun j hj => by rw [sbyte_bN, sbyte_bN, h j hj]
set_option maxRecDepth 100000 in
set_option maxHeartbeats 2000000 in
theorem shapeN (n b0 b1 b2 b3 : Nat) :
    (b0 < 128 ∧ decodeN n b0 b1 b2 b3 = (b0, 1)) ∨
    (b0 / 32 = 6 ∧ 1 < n ∧ b1 / 64 = 2 ∧ 128 ≤ b0 % 32 * 64 + b1 % 64 ∧ decodeN n b0 b1 b2 b3 = (b0 % 32 * 64 + b1 % 64, 2)) ∨
    (b0 / 16 = 14 ∧ 2 < n ∧ b1 / 64 = 2 ∧ b2 / 64 = 2 ∧ 2048 ≤ b0 % 16 * 4096 + b1 % 64 * 64 + b2 % 64 ∧ (b0 % 16 * 4096 + b1 % 64 * 64 + b2 % 64 < 55296 ∨ 57344 ≤ b0 % 16 * 4096 + b1 % 64 * 64 + b2 % 64) ∧
      decodeN n b0 b1 b2 b3 = (b0 % 16 * 4096 + b1 % 64 * 64 + b2 % 64, 3)) ∨
    (b0 / 8 = 30 ∧ 3 < n ∧ b1 / 64 = 2 ∧ b2 / 64 = 2 ∧ b3 / 64 = 2 ∧ 65536 ≤ b0 % 8 * 262144 + b1 % 64 * 4096 + b2 % 64 * 64 + b3 % 64 ∧ b0 % 8 * 262144 + b1 % 64 * 4096 + b2 % 64 * 64 + b3 % 64 ≤ 1114111 ∧
      decodeN n b0 b1 b2 b3 = (b0 % 8 * 262144 + b1 % 64 * 4096 + b2 % 64 * 64 + b3 % 64, 4)) ∨
    (decodeN n b0 b1 b2 b3 = (65533, 1) ∧ 128 ≤ b0 ∧
      ¬ (b0 / 32 = 6 ∧ 1 < n ∧ b1 / 64 = 2 ∧ 128 ≤ b0 % 32 * 64 + b1 % 64) ∧
      ¬ (b0 / 16 = 14 ∧ 2 < n ∧ b1 / 64 = 2 ∧ b2 / 64 = 2 ∧ 2048 ≤ b0 % 16 * 4096 + b1 % 64 * 64 + b2 % 64 ∧ (b0 % 16 * 4096 + b1 % 64 * 64 + b2 % 64 < 55296 ∨ 57344 ≤ b0 % 16 * 4096 + b1 % 64 * 64 + b2 % 64)) ∧
      ¬ (b0 / 8 = 30 ∧ 3 < n ∧ b1 / 64 = 2 ∧ b2 / 64 = 2 ∧ b3 / 64 = 2 ∧ 65536 ≤ b0 % 8 * 262144 + b1 % 64 * 4096 + b2 % 64 * 64 + b3 % 64 ∧ b0 % 8 * 262144 + b1 % 64 * 4096 + b2 % 64 * 64 + b3 % 64 ≤ 1114111)) := by
  unfold decodeN
  repeat' split
  all_goals first
    | exact .inl ⟨by omega, rfl⟩
    | exact .inr (.inl ⟨by omega, by omega, by omega, by omega, rfl⟩)
    | exact .inr (.inr (.inl ⟨by omega, by omega, by omega, by omega, by omega, by omega, rfl⟩))
    | exact .inr (.inr (.inr (.inl ⟨by omega, by omega, by omega, by omega, by omega, by omega, by omega, rfl⟩)))
    | exact .inr (.inr (.inr (.inr ⟨rfl, by omega, by omega, by omega, by omega⟩)))
theorem dec_pos (s : ByteArray) (p : Nat) : 1 ≤ (Utf8.decode s p).2 := by
  rw [decode_bN]
  rcases shapeN (s.size - p) (bN s p) (bN s (p + 1)) (bN s (p + 2)) (bN s (p + 3)) with ⟨_, h⟩ | ⟨_, _, _, _, h⟩ | ⟨_, _, _, _, _, _, h⟩ | ⟨_, _, _, _, _, _, _, h⟩ | ⟨h, _⟩ <;> rw [h] <;> simp
theorem dec_le {s : ByteArray} {p : Nat} (hp : p < s.size) : p + (Utf8.decode s p).2 ≤ s.size := by
  rw [decode_bN]
  rcases shapeN (s.size - p) (bN s p) (bN s (p + 1)) (bN s (p + 2)) (bN s (p + 3)) with ⟨_, h⟩ | ⟨_, _, _, _, h⟩ | ⟨_, _, _, _, _, _, h⟩ | ⟨_, _, _, _, _, _, _, h⟩ | ⟨h, _⟩ <;> rw [h] <;> simp only <;> omega
theorem dec_four (s : ByteArray) (p : Nat) : (Utf8.decode s p).2 ≤ 4 := by
  rw [decode_bN]
  rcases shapeN (s.size - p) (bN s p) (bN s (p + 1)) (bN s (p + 2)) (bN s (p + 3)) with ⟨_, h⟩ | ⟨_, _, _, _, h⟩ | ⟨_, _, _, _, _, _, h⟩ | ⟨_, _, _, _, _, _, _, h⟩ | ⟨h, _⟩ <;> rw [h] <;> simp only <;> omega
def okR (c : Nat) : Prop := c < 55296 ∨ (57344 ≤ c ∧ c ≤ 1114111)
theorem dec_ok (s : ByteArray) (p : Nat) : okR (Utf8.decode s p).1 := by
  rw [decode_bN]
  have := bN_lt s p
  unfold okR
  rcases shapeN (s.size - p) (bN s p) (bN s (p + 1)) (bN s (p + 2)) (bN s (p + 3)) with ⟨_, h⟩ | ⟨_, _, _, _, h⟩ | ⟨_, _, _, _, _, _, h⟩ | ⟨_, _, _, _, _, _, _, h⟩ | ⟨h, _⟩ <;> rw [h] <;> simp only <;> omega
theorem dec_ext {s : ByteArray} {p : Nat} (hp : p ≤ s.size) : Utf8.decode (s.extract p s.size) 0 = Utf8.decode s p := by
  rw [decode_bN, decode_bN, ext_size _ _ _ (Nat.le_refl _)]
  have h : ∀ i, bN (s.extract p s.size) i = bN s (p + i) := fun i => by
    rw [bN_extract _ _ _ _ (Nat.le_refl _)]
    split
    · rfl
    · rw [bN_out (by omega)]
  simp only [h, Nat.sub_zero, Nat.add_zero, Nat.zero_add]
theorem dec_extQ {s : ByteArray} {p q : Nat} (hp : p ≤ s.size) : Utf8.decode (s.extract p s.size) q = Utf8.decode s (p + q) := by
  rw [decode_bN, decode_bN, ext_size _ _ _ (Nat.le_refl _)]
  have h : ∀ i, bN (s.extract p s.size) i = bN s (p + i) := fun i => by
    rw [bN_extract _ _ _ _ (Nat.le_refl _)]
    split
    · rfl
    · rw [bN_out (by omega)]
  simp only [h, Nat.sub_sub, Nat.add_assoc]
set_option maxRecDepth 100000 in
set_option maxHeartbeats 2000000 in
theorem dec_cut {s : ByteArray} {p i : Nat} (hi : i ≤ s.size) (h : p + (Utf8.decode s p).2 ≤ i) : Utf8.decode (s.extract 0 i) p = Utf8.decode s p := by
  have hb : ∀ k, bN (s.extract 0 i) k = if k < i then bN s k else 0 := fun k => by
    rw [bN_extract _ _ _ _ hi, Nat.zero_add]
  rw [decode_bN] at h
  rw [decode_bN, decode_bN, ext_size _ _ _ hi]
  simp only [hb, Nat.sub_zero]
  rcases shapeN (s.size - p) (bN s p) (bN s (p + 1)) (bN s (p + 2)) (bN s (p + 3)) with ⟨h1, h0⟩ | ⟨h1, h2, h3, h4, h0⟩ | ⟨h1, h2, h3, h4, h5, h6, h0⟩ | ⟨h1, h2, h3, h4, h5, h6, h7, h0⟩ | ⟨h0, h1, h2, h3, h4⟩ <;> rw [h0] at h ⊢ <;> simp only at h
  · rw [if_pos (by omega)]
    unfold decodeN
    rw [if_pos (by omega)]
  · rw [if_pos (by omega), if_pos (by omega)]
    rcases shapeN (i - p) (bN s p) (bN s (p + 1)) (if p + 2 < i then bN s (p + 2) else 0) (if p + 3 < i then bN s (p + 3) else 0) with ⟨k1, k0⟩ | ⟨k1, k2, k3, k4, k0⟩ | ⟨k1, _⟩ | ⟨k1, _⟩ | ⟨k0, k1, k2, k3, k4⟩
    · omega
    · exact k0
    · omega
    · omega
    · omega
  · rw [if_pos (by omega), if_pos (by omega), if_pos (by omega)]
    rcases shapeN (i - p) (bN s p) (bN s (p + 1)) (bN s (p + 2)) (if p + 3 < i then bN s (p + 3) else 0) with ⟨k1, k0⟩ | ⟨k1, k2, k3, k4, k0⟩ | ⟨k1, k2, k3, k4, k5, k6, k0⟩ | ⟨k1, _⟩ | ⟨k0, k1, k2, k3, k4⟩
    · omega
    · omega
    · exact k0
    · omega
    · omega
  · rw [if_pos (by omega), if_pos (by omega), if_pos (by omega), if_pos (by omega)]
    rcases shapeN (i - p) (bN s p) (bN s (p + 1)) (bN s (p + 2)) (bN s (p + 3)) with ⟨k1, k0⟩ | ⟨k1, k2, k3, k4, k0⟩ | ⟨k1, k2, k3, k4, k5, k6, k0⟩ | ⟨k1, k2, k3, k4, k5, k6, k7, k0⟩ | ⟨k0, k1, k2, k3, k4⟩
    · omega
    · omega
    · omega
    · exact k0
    · omega
  · rw [if_pos (by omega)]
    rcases shapeN (i - p) (bN s p) (if p + 1 < i then bN s (p + 1) else 0) (if p + 2 < i then bN s (p + 2) else 0) (if p + 3 < i then bN s (p + 3) else 0) with ⟨k1, k0⟩ | ⟨k1, k2, k3, k4, k0⟩ | ⟨k1, k2, k3, k4, k5, k6, k0⟩ | ⟨k1, k2, k3, k4, k5, k6, k7, k0⟩ | ⟨k0, k1, k2, k3, k4⟩
    · omega
    · rw [if_pos (by omega)] at k3 k4; omega
    · rw [if_pos (by omega)] at k3 k5 k6; rw [if_pos (by omega)] at k4 k5 k6; omega
    · rw [if_pos (by omega)] at k3 k6 k7; rw [if_pos (by omega)] at k4 k6 k7; rw [if_pos (by omega)] at k5 k6 k7; omega
    · exact k0
end Go.Eng

namespace Go.Eng
open Go Go.Lib
def encR (c : Nat) : ByteArray := Utf8.encode (c : Int)
def b8 (n : Nat) : UInt8 := UInt8.ofNat n
theorem b8_nat {n : Nat} (h : n < 256) : (b8 n).toNat = n := by
  show (UInt8.ofNat n).toNat = n
  simp
  omega
theorem encR_eq {c : Nat} (h : okR c) : encR c = if c < 128 then ⟨#[b8 c]⟩ else if c < 2048 then ⟨#[b8 (192 + c / 64), b8 (128 + c % 64)]⟩ else if c < 65536 then ⟨#[b8 (224 + c / 4096), b8 (128 + c / 64 % 64), b8 (128 + c % 64)]⟩
    else ⟨#[b8 (240 + c / 262144), b8 (128 + c / 4096 % 64), b8 (128 + c / 64 % 64), b8 (128 + c % 64)]⟩ := by
  unfold encR Utf8.encode
  have hv : Utf8.valid (c : Int) = true := by
    unfold okR at h
    simp only [Utf8.valid, Bool.or_eq_true, Bool.and_eq_true, decide_eq_true_eq]
    omega
  rw [hv]
  rfl
theorem bN_cons0 (a : UInt8) (l : List UInt8) : bN ⟨⟨a :: l⟩⟩ 0 = a.toNat := rfl
theorem bN_consS (a : UInt8) (l : List UInt8) (i : Nat) : bN ⟨⟨a :: l⟩⟩ (i + 1) = bN ⟨⟨l⟩⟩ i := by
  unfold bN; simp
theorem bN_nil (i : Nat) : bN ⟨⟨[]⟩⟩ i = 0 := by unfold bN; simp
theorem size_mk (l : List UInt8) : ByteArray.size ⟨⟨l⟩⟩ = l.length := rfl
set_option maxRecDepth 100000 in
set_option maxHeartbeats 4000000 in
theorem dec_enc {s : ByteArray} {p : Nat} (hp : p < s.size) (he : ¬ (Utf8.decode s p = (65533, 1))) : encR (Utf8.decode s p).1 = s.extract p (p + (Utf8.decode s p).2) := by
  have hl := dec_le hp
  rw [encR_eq (dec_ok s p)]
  have k0 := bN_lt s p
  have k1 := bN_lt s (p + 1)
  have k2 := bN_lt s (p + 2)
  have k3 := bN_lt s (p + 3)
  have hx : ∀ j, j < (Utf8.decode s p).2 → bN (s.extract p (p + (Utf8.decode s p).2)) j = bN s (p + j) := fun j hj => by
    rw [bN_extract _ _ _ _ hl, if_pos (by omega)]
  have hz : (s.extract p (p + (Utf8.decode s p).2)).size = (Utf8.decode s p).2 := by rw [ext_size _ _ _ hl]; omega
  refine bN_eq ?_ ?_
  · rw [hz, decode_bN]
    rw [decode_bN] at he hl
    rcases shapeN (s.size - p) (bN s p) (bN s (p + 1)) (bN s (p + 2)) (bN s (p + 3)) with ⟨_, h⟩ | ⟨_, _, _, _, h⟩ | ⟨_, _, _, _, _, _, h⟩ | ⟨_, _, _, _, _, _, _, h⟩ | ⟨h, _⟩ <;> rw [h] at he ⊢ <;> simp only
    · rw [if_pos (by omega)]; rfl
    · rw [if_neg (by omega), if_pos (by omega)]; rfl
    · rw [if_neg (by omega), if_neg (by omega), if_pos (by omega)]; rfl
    · rw [if_neg (by omega), if_neg (by omega), if_neg (by omega)]; rfl
    · exact absurd rfl he
  · rw [decode_bN]
    rw [decode_bN] at he hl hx
    intro j hj
    rcases shapeN (s.size - p) (bN s p) (bN s (p + 1)) (bN s (p + 2)) (bN s (p + 3)) with ⟨_, h⟩ | ⟨_, _, _, _, h⟩ | ⟨_, _, _, _, _, _, h⟩ | ⟨_, _, _, _, _, _, _, h⟩ | ⟨h, _⟩ <;> rw [h] at he hx hj ⊢ <;> simp only at hj hx ⊢
    · rw [if_pos (by omega)] at hj ⊢
      have hj : j < 1 := hj
      obtain rfl : j = 0 := by omega
      rw [hx 0 (by omega), bN_cons0, b8_nat (by omega)]; rfl
    · rw [if_neg (by omega), if_pos (by omega)] at hj ⊢
      have hj : j < 2 := hj
      rw [hx j (by omega)]
      match j, hj with
      | 0, _ =>
        rw [bN_cons0, b8_nat (by omega)]
        show _ = bN s p
        omega
      | 1, _ => rw [bN_consS, bN_cons0, b8_nat (by omega)]; omega
    · rw [if_neg (by omega), if_neg (by omega), if_pos (by omega)] at hj ⊢
      have hj : j < 3 := hj
      rw [hx j (by omega)]
      match j, hj with
      | 0, _ =>
        rw [bN_cons0, b8_nat (by omega)]
        show _ = bN s p
        omega
      | 1, _ => rw [bN_consS, bN_cons0, b8_nat (by omega)]; omega
      | 2, _ => rw [bN_consS, bN_consS, bN_cons0, b8_nat (by omega)]; omega
    · rw [if_neg (by omega), if_neg (by omega), if_neg (by omega)] at hj ⊢
      have hj : j < 4 := hj
      rw [hx j (by omega)]
      match j, hj with
      | 0, _ =>
        rw [bN_cons0, b8_nat (by omega)]
        show _ = bN s p
        omega
      | 1, _ => rw [bN_consS, bN_cons0, b8_nat (by omega)]; omega
      | 2, _ => rw [bN_consS, bN_consS, bN_cons0, b8_nat (by omega)]; omega
      | 3, _ => rw [bN_consS, bN_consS, bN_consS, bN_cons0, b8_nat (by omega)]; omega
    · exact absurd rfl he
theorem dec_at_enc {s e : ByteArray} {p : Nat} (hz : p + e.size ≤ s.size) (h : ∀ j, j < e.size → bN s (p + j) = bN e j) {c : Nat} (hc : okR c) (he : e = encR c) : Utf8.decode s p = (c, e.size) := by
  rw [encR_eq hc] at he
  rw [decode_bN]
  unfold okR at hc
  by_cases h1 : c < 128
  · rw [if_pos h1] at he
    subst he
    have hz : p + 1 ≤ s.size := hz
    have e0 := h 0 (by simp [size_mk])
    rw [bN_cons0, b8_nat (by omega), Nat.add_zero] at e0
    unfold decodeN
    rw [if_pos (by omega), e0]; rfl
  rw [if_neg h1] at he
  by_cases h2 : c < 2048
  · rw [if_pos h2] at he
    subst he
    have hz : p + 2 ≤ s.size := hz
    have e0 := h 0 (by simp [size_mk])
    have e1 := h 1 (by simp [size_mk])
    rw [bN_cons0, b8_nat (by omega), Nat.add_zero] at e0
    rw [bN_consS, bN_cons0, b8_nat (by omega)] at e1
    show decodeN _ _ _ _ _ = (c, 2)
    rcases shapeN (s.size - p) (bN s p) (bN s (p + 1)) (bN s (p + 2)) (bN s (p + 3)) with ⟨_, k⟩ | ⟨_, _, _, _, k⟩ | ⟨_, _, _, _, _, _, k⟩ | ⟨_, _, _, _, _, _, _, k⟩ | ⟨k, _⟩
    · omega
    · rw [k]; exact Prod.ext (by show _ = c; omega) rfl
    · omega
    · omega
    · omega
  rw [if_neg h2] at he
  by_cases h3 : c < 65536
  · rw [if_pos h3] at he
    subst he
    have hz : p + 3 ≤ s.size := hz
    have e0 := h 0 (by simp [size_mk])
    have e1 := h 1 (by simp [size_mk])
    have e2 := h 2 (by simp [size_mk])
    rw [bN_cons0, b8_nat (by omega), Nat.add_zero] at e0
    rw [bN_consS, bN_cons0, b8_nat (by omega)] at e1
    rw [bN_consS, bN_consS, bN_cons0, b8_nat (by omega)] at e2
    show decodeN _ _ _ _ _ = (c, 3)
    rcases shapeN (s.size - p) (bN s p) (bN s (p + 1)) (bN s (p + 2)) (bN s (p + 3)) with ⟨_, k⟩ | ⟨_, _, _, _, k⟩ | ⟨_, _, _, _, _, _, k⟩ | ⟨_, _, _, _, _, _, _, k⟩ | ⟨k, _⟩
    · omega
    · omega
    · rw [k]; exact Prod.ext (by show _ = c; omega) rfl
    · omega
    · omega
  rw [if_neg h3] at he
  subst he
  have hz : p + 4 ≤ s.size := hz
  have e0 := h 0 (by simp [size_mk])
  have e1 := h 1 (by simp [size_mk])
  have e2 := h 2 (by simp [size_mk])
  have e3 := h 3 (by simp [size_mk])
  rw [bN_cons0, b8_nat (by omega), Nat.add_zero] at e0
  rw [bN_consS, bN_cons0, b8_nat (by omega)] at e1
  rw [bN_consS, bN_consS, bN_cons0, b8_nat (by omega)] at e2
  rw [bN_consS, bN_consS, bN_consS, bN_cons0, b8_nat (by omega)] at e3
  show decodeN _ _ _ _ _ = (c, 4)
  rcases shapeN (s.size - p) (bN s p) (bN s (p + 1)) (bN s (p + 2)) (bN s (p + 3)) with ⟨_, k⟩ | ⟨_, _, _, _, k⟩ | ⟨_, _, _, _, _, _, k⟩ | ⟨_, _, _, _, _, _, _, k⟩ | ⟨k, _⟩
  · omega
  · omega
  · omega
  · rw [k]; exact Prod.ext (by show _ = c; omega) rfl
  · omega
theorem encR_size {c : Nat} (h : okR c) : 1 ≤ (encR c).size ∧ (encR c).size ≤ 4 := by
  rw [encR_eq h]
  repeat' split
  all_goals exact ⟨by simp [size_mk], by simp [size_mk]⟩
def rF (s : ByteArray) : Nat → Nat → List Nat
  | 0, _ => []
  | k + 1, p => if p < s.size then (Utf8.decode s p).1 :: rF s k (p + (Utf8.decode s p).2) else []
def rns (s : ByteArray) (p : Nat) : List Nat := rF s (s.size - p) p
theorem rF_more (s : ByteArray) : ∀ (k k' p : Nat), s.size - p ≤ k → s.size - p ≤ k' → rF s k p = rF s k' p := by
  intro k
  induction k with
  | zero =>
    intro k' p h _
    cases k' with
    | zero => rfl
    | succ k' => rw [rF, rF, if_neg (by omega)]
  | succ k ih =>
    intro k' p h h'
    cases k' with
    | zero => rw [rF, rF, if_neg (by omega)]
    | succ k' =>
      rw [rF, rF]
      split
      · have := dec_pos s p
        rw [ih k' _ (by omega) (by omega)]
      · rfl
theorem rns_step {s : ByteArray} {p : Nat} (h : p < s.size) : rns s p = (Utf8.decode s p).1 :: rns s (p + (Utf8.decode s p).2) := by
  have := dec_pos s p
  unfold rns
  obtain ⟨k, hk⟩ : ∃ k, s.size - p = k + 1 := ⟨s.size - p - 1, by omega⟩
  rw [hk, rF, if_pos h, rF_more s k (s.size - (p + (Utf8.decode s p).2)) _ (by omega) (Nat.le_refl _)]
theorem rns_end {s : ByteArray} {p : Nat} (h : s.size ≤ p) : rns s p = [] := by
  unfold rns
  rw [show s.size - p = 0 by omega]; rfl
theorem rns_len {s : ByteArray} {p : Nat} : (rns s p).length ≤ s.size - p := by
  have : ∀ n p, s.size - p ≤ n → (rns s p).length ≤ s.size - p := by
    intro n
    induction n with
    | zero => intro p h; rw [rns_end (by omega)]; simp
    | succ n ih =>
      intro p h
      by_cases hp : p < s.size
      · rw [rns_step hp]
        have := dec_pos s p
        have := dec_le hp
        have := ih (p + (Utf8.decode s p).2) (by omega)
        simp only [List.length_cons]; omega
      · rw [rns_end (by omega)]; simp
  exact this _ p (Nat.le_refl _)
def badAt (s : ByteArray) (p : Nat) : Prop := Utf8.decode s p = (65533, 1)
instance (s : ByteArray) (p : Nat) : Decidable (badAt s p) := by unfold badAt; infer_instance
def gF (s : ByteArray) : Nat → Nat → Bool
  | 0, _ => true
  | k + 1, p => if p < s.size then !decide (badAt s p) && gF s k (p + (Utf8.decode s p).2) else true
def good (s : ByteArray) (p : Nat) : Bool := gF s (s.size - p) p
theorem gF_more (s : ByteArray) : ∀ (k k' p : Nat), s.size - p ≤ k → s.size - p ≤ k' → gF s k p = gF s k' p := by
  intro k
  induction k with
  | zero =>
    intro k' p h _
    cases k' with
    | zero => rfl
    | succ k' => rw [gF, gF, if_neg (by omega)]
  | succ k ih =>
    intro k' p h h'
    cases k' with
    | zero => rw [gF, gF, if_neg (by omega)]
    | succ k' =>
      rw [gF, gF]
      split
      · have := dec_pos s p
        rw [ih k' _ (by omega) (by omega)]
      · rfl
theorem good_step {s : ByteArray} {p : Nat} (h : p < s.size) : good s p = (!decide (badAt s p) && good s (p + (Utf8.decode s p).2)) := by
  have := dec_pos s p
  unfold good
  obtain ⟨k, hk⟩ : ∃ k, s.size - p = k + 1 := ⟨s.size - p - 1, by omega⟩
  rw [hk, gF, if_pos h, gF_more s k (s.size - (p + (Utf8.decode s p).2)) _ (by omega) (Nat.le_refl _)]
theorem good_end {s : ByteArray} {p : Nat} (h : s.size ≤ p) : good s p = true := by
  unfold good
  rw [show s.size - p = 0 by omega]; rfl
theorem rns_ok {s : ByteArray} {p : Nat} : ∀ c ∈ rns s p, okR c := by
  have : ∀ n p, s.size - p ≤ n → ∀ c ∈ rns s p, okR c := by
    intro n
    induction n with
    | zero => intro p h c hc; rw [rns_end (by omega)] at hc; simp at hc
    | succ n ih =>
      intro p h c hc
      by_cases hp : p < s.size
      · rw [rns_step hp] at hc
        have := dec_pos s p
        rcases List.mem_cons.1 hc with rfl | hc
        · exact dec_ok s p
        · exact ih _ (by omega) c hc
      · rw [rns_end (by omega)] at hc; simp at hc
  exact this _ p (Nat.le_refl _)
end Go.Eng
namespace Go.Eng
open Go
theorem ext_ext {s : ByteArray} {p w n : Nat} (h : p + w ≤ s.size) (hn : n = (s.extract p s.size).size) : (s.extract p s.size).extract w n = s.extract (p + w) s.size := by
  subst hn
  have h1 : (s.extract p s.size).size = s.size - p := ext_size _ _ _ (Nat.le_refl _)
  refine bN_eq ?_ fun j hj => ?_
  · rw [ext_size _ _ _ (Nat.le_refl _), h1, ext_size _ _ _ (Nat.le_refl _)]; omega
  · rw [bN_extract _ _ _ _ (Nat.le_refl _), bN_extract _ _ _ _ (Nat.le_refl _), bN_extract _ _ _ _ (Nat.le_refl _), h1]
    by_cases h2 : p + w + j < s.size
    · rw [if_pos (by omega), if_pos (by omega), if_pos h2, Nat.add_assoc]
    · rw [if_neg (by omega), if_neg h2]
theorem ext_all (s : ByteArray) : s.extract 0 s.size = s := by
  refine bN_eq ?_ fun j hj => ?_
  · rw [ext_size _ _ _ (Nat.le_refl _)]; rfl
  · rw [ext_size _ _ _ (Nat.le_refl _)] at hj
    rw [bN_extract _ _ _ _ (Nat.le_refl _), Nat.zero_add, if_pos (by omega)]
theorem ext_none (s : ByteArray) : s.extract s.size s.size = ⟨#[]⟩ := by
  refine bN_eq ?_ fun j hj => ?_
  · rw [ext_size _ _ _ (Nat.le_refl _)]; simp; rfl
  · rw [ext_size _ _ _ (Nat.le_refl _)] at hj; omega
def adv (s : ByteArray) : Nat → Nat → Nat
  | 0, p => p
  | k + 1, p => if p < s.size then adv s k (p + (Utf8.decode s p).2) else p
theorem adv_le {s : ByteArray} : ∀ {k p : Nat}, p ≤ s.size → adv s k p ≤ s.size
  | 0, p, h => h
  | k + 1, p, h => by
    rw [adv]
    split
    · rename_i h'; exact adv_le (dec_le h')
    · exact h
theorem adv_end {s : ByteArray} {k p : Nat} (h : s.size ≤ p) : adv s k p = p := by
  cases k with
  | zero => rfl
  | succ k => rw [adv, if_neg (by omega)]
theorem adv_step {s : ByteArray} {k p : Nat} (h : p < s.size) (hk : 0 < k) : adv s k p = adv s (k - 1) (p + (Utf8.decode s p).2) := by
  obtain ⟨k, rfl⟩ : ∃ j, k = j + 1 := ⟨k - 1, by omega⟩
  rw [adv, if_pos h]; rfl
def okAt (s : ByteArray) (p : Nat) : Bool := !decide (badAt s p)
theorem okAt_t {s : ByteArray} {p : Nat} {d : Nat × Nat} (h : Utf8.decode s p = d) (hn : ¬ d = (65533, 1)) : okAt s p = true := by
  unfold okAt
  have : ¬ badAt s p := fun e => hn (h.symm.trans e)
  rw [decide_eq_false this]; rfl
theorem okAt_f {s : ByteArray} {p : Nat} (h : Utf8.decode s p = (65533, 1)) : okAt s p = false := by
  unfold okAt
  have : badAt s p := h
  rw [decide_eq_true this]; rfl
theorem okAt_ext {s : ByteArray} {p : Nat} (hp : p ≤ s.size) : okAt (s.extract p s.size) 0 = okAt s p := by
  unfold okAt badAt
  exact congrArg Bool.not (decide_eq_decide.2 (by rw [dec_ext hp]))
theorem good_ok {s : ByteArray} {p : Nat} (h : p < s.size) : good s p = (okAt s p && good s (p + (Utf8.decode s p).2)) := good_step h
end Go.Eng

namespace Go.Eng.M
open Go Go.Eng
theorem wrap64 {x : Int} (h : -9223372036854775808 ≤ x) (h' : x ≤ 9223372036854775807) : IntKind.i64.wrap x = x := by
  simp only [IntKind.wrap, IntKind.signed, IntKind.bits]; simp; omega
end Go.Eng.M

namespace Go.Eng.SB
open Go Go.Eng Go.Proofs
noncomputable def Γb (g : Nat) : AV := .any
noncomputable def bodyOf (fn : Func) : Code := match fn.body with | some c => c | none => .skip
noncomputable def Lno : Nat → LSpec := fun _ => ⟨[], [], fun _ _ => .fail⟩
noncomputable def loopOf (c : Code) (j : Nat) : Code := match (loopBodies c)[j]? with | some b => b | none => .skip
theorem wrapUpN {i : Nat} (h : i ≤ 10000000000) : IntKind.wrap IntKind.i64 ((i : Int) + 1) = ((i + 1 : Nat) : Int) := by rw [wrap64E]; omega
end Go.Eng.SB

namespace Go.Eng.SB
open Go Go.Eng Go.Eng.M Go.Proofs
inductive BA where
  | nil
  | sl (t : ByteArray)
  | hs (t : ByteArray)
def BA.t : BA → ByteArray
  | .nil => ⟨#[]⟩
  | .sl t => t
  | .hs t => t
def BA.av : BA → AV
  | .nil => .v (.slice none 0 0)
  | .sl t => .sl 1 t.size (bsF t)
  | .hs t => .hs 0 0 t.size
def BA.bl : BA → List Blk
  | .hs t => [.arr 1 t.size (bsF t)]
  | _ => []
def BA.n : BA → Nat
  | .hs _ => 1
  | _ => 0
def small (t : ByteArray) : Prop := t.size ≤ 1000000000
theorem runCn  : bodyE (P := Try.prog) (Γ := Γb) [] Lno false 8 [.tmp 2] (bodyOf Try.f95) [.v (.slice none 0 0)] [] =
  Tree.leaf (Ans.mk (AV.v (Value.slice none (0 : Nat) (0 : Nat))) []) := by kernel_rfl
theorem runCs (t : ByteArray) : bodyE (P := Try.prog) (Γ := Γb) [] Lno false 8 [.tmp 2] (bodyOf Try.f95) [.sl 1 t.size (bsF t)] [] =
  Tree.chk (Nat.blt (0 : Nat) (ByteArray.size t) || mkd [AV.v (Value.int IntKind.u8 (sbyte t (ByteArray.size t)))]) (Tree.chk (roomOk (1 : Nat) ((0 : Nat) + ByteArray.size t)) (Tree.leaf
    (Ans.mk (AV.hs (0 : Nat) (0 : Nat) ((0 : Nat) + ByteArray.size t)) [some (Blk.arr (1 : Nat) ((0 : Nat) + ByteArray.size t) fun j => mixL (decide (j < (0 : Nat))) (chain [AV.v (Value.int
    IntKind.u8 (0 : Int))] (0 : Nat) [] ((0 : Nat) + j)) [AV.v (Value.int IntKind.u8 (sbyte t j))])]))) := by kernel_rfl
theorem runCh (t : ByteArray) : bodyE (P := Try.prog) (Γ := Γb) [] Lno false 8 [.tmp 2] (bodyOf Try.f95) [.hs 0 0 t.size] [.arr 1 t.size (bsF t)] =
  Tree.chk (Nat.blt (0 : Nat) (ByteArray.size t) || Nat.blt (0 : Nat) (ByteArray.size t)) (Tree.chk (roomOk (1 : Nat) ((0 : Nat) + ByteArray.size t)) (Tree.leaf (Ans.mk (AV.hs (1 : Nat) (0 :
    Nat) ((0 : Nat) + ByteArray.size t)) [some (Blk.arr (1 : Nat) (ByteArray.size t) fun j => [AV.v (Value.int IntKind.u8 (sbyte t j))]), some (Blk.arr (1 : Nat) ((0 : Nat) + ByteArray.size
    t) fun j => mixL (decide (j < (0 : Nat))) (chain [AV.v (Value.int IntKind.u8 (0 : Int))] (0 : Nat) [] ((0 : Nat) + j)) [AV.v (Value.int IntKind.u8 (sbyte t ((0 : Nat) + j)))])]))) := by kernel_rfl
def BA.ok : BA → Prop
  | .nil => True
  | .sl t => small t ∧ 0 < t.size
  | .hs t => small t ∧ 0 < t.size
theorem room {n : Nat} (h : n ≤ 2000000000) : roomOk 1 (0 + n) = true := by
  unfold roomOk
  exact decide_eq_true (by omega)
theorem room' {n : Nat} (h : n ≤ 2000000000) : roomOk 1 n = true := by
  unfold roomOk
  exact decide_eq_true (by omega)
theorem cut0 (t : ByteArray) (j : Nat) : (bif decide (j < (0 : Nat)) then (0 : Int) else sbyte t (j - (0 : Nat))) = sbyte t j := by
  rw [decide_eq_false (Nat.not_lt_zero _)]; rfl
theorem cut1 (t : ByteArray) (j : Nat) : (bif decide (j < (0 : Nat)) then (0 : Int) else sbyte t ((0 : Nat) + (j - (0 : Nat)))) = sbyte t j := by
  rw [decide_eq_false (Nat.not_lt_zero _), Nat.zero_add]; rfl
def cloneV : BA → AV
  | .nil => nilSlice
  | .sl t => .hs 0 0 t.size
  | .hs t => .hs 1 0 t.size
def cloneN : BA → List Blk
  | .nil => []
  | .sl t => [.arr 1 t.size (bsF t)]
  | .hs t => [.arr 1 t.size (bsF t)]
theorem cutU (t : ByteArray) : (fun j => mixL (decide (j < 0)) (chain [AV.v (Value.int IntKind.u8 0)] 0 [] j) [AV.v (Value.int IntKind.u8 (sbyte t j))]) = bsF t := by
  funext j
  show mixL _ [AV.v (Value.int IntKind.u8 0)] _ = _
  rw [mixU, decide_eq_false (Nat.not_lt_zero j)]
  rfl
theorem cutO (t : ByteArray) : OLe (some (.arr 1 t.size fun j => mixL (decide (j < 0)) (chain [AV.v (Value.int IntKind.u8 0)] 0 [] j) [AV.v (Value.int IntKind.u8 (sbyte t j))])) (some (.arr 1 t.size (bsF t))) := by
  rw [cutU]; exact OLe.refl _
theorem ansClone (x : BA) (hp : x.ok) : Answers Try.prog Γb 95 [x.av] x.bl (cloneV x) (x.bl.map some) (cloneN x) := by
  cases x with
  | nil =>
    refine answers (fn := Try.f95) (c := bodyOf Try.f95) (ntmps := 8) (results := [.tmp 2]) [] (Lno) false Try.func95 (by kernel_rfl) (by kernel_rfl) (by kernel_rfl) (by kernel_rfl) (by simp) rfl (failOK fun _ _ _ => rfl) <| Meets.of (runCn) <| ?_
    repeat' (first | refine wC (by first | omega | (simp only [W1, cond_true, cond_false]; first | done | omega)) ?_ | refine wT (by first | omega | (simp only [W1, cond_true, cond_false]; first | done | omega)) ?_ | refine wF (by intro _h; first | omega | (simp only [W1, cond_true, cond_false] at _h; first | done | omega)) ?_ | (refine wS ?_ ?_ <;> intro _h <;> simp only [W1, cond_true, cond_false] at _h))
    all_goals simp only [W1, W2, owesN, owesX, owesR, cond_true, cond_false]
    repeat' (first | apply And.intro | intro _hc)
    all_goals first | exact AV.le_refl _ | exact AV.le_any _ | exact OLe.refl _ | exact OLe.none _ | exact LeH.refl _ | exact LeL.refl _ | exact AV.le.bs _ | exact AV.le.sb _ | omega | contradiction
  | sl t =>
    refine answers (fn := Try.f95) (c := bodyOf Try.f95) (ntmps := 8) (results := [.tmp 2]) [] (Lno) false Try.func95 (by kernel_rfl) (by kernel_rfl) (by kernel_rfl) (by kernel_rfl) (by simp) rfl (failOK fun _ _ _ => rfl) <| Meets.of (runCs t) <| ?_
    have h1 : Nat.blt 0 t.size = true := by rw [Nat.blt_eq]; exact hp.2
    have h2 : t.size ≤ 1000000000 := hp.1
    have hO := cutO t
    simp only [Nat.zero_add, h1, Bool.true_or]
    repeat' (first | refine wC (by first | omega | (simp only [W1, cond_true, cond_false]; first | done | omega)) ?_ | refine wT (by first | omega | (simp only [W1, cond_true, cond_false]; first | done | omega)) ?_ | refine wF (by intro _h; first | omega | (simp only [W1, cond_true, cond_false] at _h; first | done | omega)) ?_ | (refine wS ?_ ?_ <;> intro _h <;> simp only [W1, cond_true, cond_false] at _h))
    all_goals simp only [W1, W2, owesN, owesX, owesR, cond_true, cond_false]
    repeat' (first | apply And.intro | intro _hc)
    all_goals first | exact room' (by omega) | exact hO | exact ⟨hO, trivial⟩ | exact AV.le_refl _ | exact AV.le_any _ | exact OLe.refl _ | exact OLe.none _ | exact LeH.refl _ | exact LeL.refl _ | exact AV.le.bs _ | exact AV.le.sb _ | omega | contradiction
  | hs t =>
    refine answers (fn := Try.f95) (c := bodyOf Try.f95) (ntmps := 8) (results := [.tmp 2]) [] (Lno) false Try.func95 (by kernel_rfl) (by kernel_rfl) (by kernel_rfl) (by kernel_rfl) (by simp) rfl (failOK fun _ _ _ => rfl) <| Meets.of (runCh t) <| ?_
    have h1 : Nat.blt 0 t.size = true := by rw [Nat.blt_eq]; exact hp.2
    have h2 : t.size ≤ 1000000000 := hp.1
    have hO := cutO t
    simp only [Nat.zero_add, h1, Bool.true_or]
    repeat' (first | refine wC (by first | omega | (simp only [W1, cond_true, cond_false]; first | done | omega)) ?_ | refine wT (by first | omega | (simp only [W1, cond_true, cond_false]; first | done | omega)) ?_ | refine wF (by intro _h; first | omega | (simp only [W1, cond_true, cond_false] at _h; first | done | omega)) ?_ | (refine wS ?_ ?_ <;> intro _h <;> simp only [W1, cond_true, cond_false] at _h))
    all_goals simp only [W1, W2, owesN, owesX, owesR, cond_true, cond_false]
    repeat' (first | apply And.intro | intro _hc)
    all_goals first | exact room' (by omega) | exact hO | exact ⟨OLe.refl _, hO, trivial⟩ | exact AV.le_refl _ | exact AV.le_any _ | exact OLe.refl _ | exact OLe.none _ | exact LeH.refl _ | exact LeL.refl _ | exact AV.le.bs _ | exact AV.le.sb _ | omega | contradiction
noncomputable def loopN : Code := loopOf (bodyOf Try.f121) 0
theorem roundN0 (n : Nat) (t : ByteArray) : roundE (P := Try.prog) (Γ := Γb) [] Lno false 0 0 loopN [1, 6] [(1, 5)] 30 [.v (.int .i64 (n : Int)), .hs 0 0 t.size] [some (.arr 1 t.size (bsF t))] =
  Tree.br (decide ((128 : Int) ≤ (↑n : Int))) (Tree.chk (roomOk (1 : Nat) (ByteArray.size t + (1 : Nat))) (Tree.chk true (Tree.leaf (Out.mk AEx.normal [AV.v (Value.int IntKind.i64 (Int.fdiv
    (↑n : Int) ((2 : Int) ^ min (Int.toNat (7 : Int)) (64 : Nat)))), AV.hs (0 : Nat) (0 : Nat) (ByteArray.size t + (1 : Nat))] [some (Blk.arr (1 : Nat) (ByteArray.size t + (1 : Nat)) fun j
    => mixL (decide (j < ByteArray.size t)) [AV.v (Value.int IntKind.u8 (sbyte t ((0 : Nat) + j)))] (chain [AV.v (Value.int IntKind.u8 (0 : Int))] (0 : Nat) [[AV.v (Value.int IntKind.u8
    (bitI BinOp.or IntKind.u8 (IntKind.wrap IntKind.u8 (↑n : Int)) (128 : Int)))]] ((0 : Nat) + (j - ByteArray.size t))))])))) (Tree.leaf (Out.mk (AEx.exit (0 : Nat)) [AV.v (Value.int
    IntKind.i64 (↑n : Int)), AV.hs (0 : Nat) (0 : Nat) (ByteArray.size t)] [some (Blk.arr (1 : Nat) (ByteArray.size t) fun j => [AV.v (Value.int IntKind.u8 (sbyte t j))])])) := by kernel_rfl
theorem roundN1 (n : Nat) (t b : ByteArray) : roundE (P := Try.prog) (Γ := Γb) [] Lno false 1 0 loopN [1, 6] [(1, 5)] 30 [.v (.int .i64 (n : Int)), .hs 1 0 t.size] [some (.arr 1 b.size (bsF b)), some (.arr 1 t.size (bsF t))] =
  Tree.br (decide ((128 : Int) ≤ (↑n : Int))) (Tree.chk (roomOk (1 : Nat) (ByteArray.size t + (1 : Nat))) (Tree.chk true (Tree.leaf (Out.mk AEx.normal [AV.v (Value.int IntKind.i64 (Int.fdiv
    (↑n : Int) ((2 : Int) ^ min (Int.toNat (7 : Int)) (64 : Nat)))), AV.hs (1 : Nat) (0 : Nat) (ByteArray.size t + (1 : Nat))] [some (Blk.arr (1 : Nat) (ByteArray.size b) fun j => [AV.v
    (Value.int IntKind.u8 (sbyte b j))]), some (Blk.arr (1 : Nat) (ByteArray.size t + (1 : Nat)) fun j => mixL (decide (j < ByteArray.size t)) [AV.v (Value.int IntKind.u8 (sbyte t ((0 : Nat)
    + j)))] (chain [AV.v (Value.int IntKind.u8 (0 : Int))] (0 : Nat) [[AV.v (Value.int IntKind.u8 (bitI BinOp.or IntKind.u8 (IntKind.wrap IntKind.u8 (↑n : Int)) (128 : Int)))]] ((0 : Nat) +
    (j - ByteArray.size t))))])))) (Tree.leaf (Out.mk (AEx.exit (0 : Nat)) [AV.v (Value.int IntKind.i64 (↑n : Int)), AV.hs (1 : Nat) (0 : Nat) (ByteArray.size t)] [some (Blk.arr (1 : Nat)
    (ByteArray.size b) fun j => [AV.v (Value.int IntKind.u8 (sbyte b j))]), some (Blk.arr (1 : Nat) (ByteArray.size t) fun j => [AV.v (Value.int IntKind.u8 (sbyte t j))])])) := by kernel_rfl
def SN (a : BA) (n : Nat) (t : ByteArray) : List AV × Heap := ([.v (.int .i64 (n : Int)), .hs a.n 0 t.size], a.bl.map some ++ [some (.arr 1 t.size (bsF t))])
def preN (x : Nat × ByteArray) : Prop := x.1 ≤ 4611686018427387904 ∧ x.2.size + (hiB x.1).size ≤ 1000000100
def ON (a : BA) (n : Nat) (t : ByteArray) : Out := ⟨.exit 0, [.v (.int .i64 (loN n : Int)), .hs a.n 0 (t ++ hiB n).size], a.bl.map some ++ [some (.arr 1 (t ++ hiB n).size (bsF (t ++ hiB n)))]⟩
theorem stepN {n : Nat} {t : ByteArray} (hp : preN (n, t)) (h : 128 ≤ n) : ((n : Int).fdiv ((2 : Int) ^ min (Int.toNat (7 : Int)) (64 : Nat))) = ((n / 128 : Nat) : Int) ∧ (t ++ oneB (n % 128 + 128)).size = t.size + 1 ∧ t.size + 1 ≤ 1000000100 ∧
    preN (n / 128, t ++ oneB (n % 128 + 128)) ∧ (t ++ oneB (n % 128 + 128)) ++ hiB (n / 128) = t ++ hiB n ∧
    ∀ j, j < t.size + 1 → (bif decide (j < t.size) then sbyte t ((0 : Nat) + j) else bif ((0 : Nat) + (j - t.size)).beq (0 : Nat) then bitI BinOp.or IntKind.u8 (IntKind.u8.wrap (n : Int)) (128 : Int) else (0 : Int)) = sbyte (t ++ oneB (n % 128 + 128)) j := by
  have hge : ¬ n < 128 := by omega
  have e1 := hiB_ge hge
  have hp1 := hp.1
  have hp2 := hp.2
  simp only [e1, ByteArray.size_append, oneB_size] at hp2
  refine ⟨?_, by simp, by omega, ⟨?_, ?_⟩, ?_, fun j hj => ?_⟩
  · show (n : Int).fdiv 128 = _
    rw [Int.fdiv_eq_ediv_of_nonneg _ (by decide)]
    omega
  · show n / 128 ≤ _
    have : n / 128 ≤ n := Nat.div_le_self _ _
    simp only at hp1
    omega
  · simp only [ByteArray.size_append, oneB_size]; omega
  · rw [e1, ByteArray.append_assoc]
  · have hv : bitI BinOp.or IntKind.u8 (IntKind.u8.wrap (n : Int)) (128 : Int) = ((n % 128 + 128 : Nat) : Int) := by
      rw [wrapU8, or128 _ (by omega) (by omega)]
      omega
    rw [hv, push_eq (by omega) (by omega) hj, Int.toNat_natCast]
theorem loopN_ok (a : BA) : ∀ x : Nat × ByteArray, preN x → LoopOK Try.prog Γb a.bl.length 30 loopN (LSpec.at [1, 6] [(1, 5)] (SN a x.1 x.2) (ON a x.1 x.2)) := by
  refine loop_at (S := fun x : Nat × ByteArray => SN a x.1 x.2) (O := fun x => ON a x.1 x.2) (k := 0) (fun x => x.1) fun x hp => ⟨[], Lno, false, noLoops (by kernel_rfl), ?_⟩
  obtain ⟨n, t⟩ := x
  have fin : ¬ 128 ≤ n → hiB n = ⟨#[]⟩ ∧ loN n = n := fun h => ⟨hiB_lt (by omega), loN_lt (by omega)⟩
  have hd : (128 : Int) ≤ (n : Int) ↔ 128 ≤ n := by omega
  cases a with
  | hs b =>
    show (roundE (P := Try.prog) (Γ := Γb) [] Lno false 1 0 loopN [1, 6] [(1, 5)] 30 [.v (.int .i64 (n : Int)), .hs 1 0 t.size] [some (.arr 1 b.size (bsF b)), some (.arr 1 t.size (bsF t))]).sat _
    rw [roundN1]
    refine ⟨fun hc => ?_, fun hc => ?_⟩
    · have h := hd.1 (of_decide_eq_true hc)
      obtain ⟨s1, s2, s3, s4, s5, s6⟩ := stepN hp h
      refine ⟨room' (by omega), rfl, (n / 128, t ++ oneB (n % 128 + 128)), ?_, ?_, s4, ?_, ?_⟩
      · rw [s1]; exact ⟨.refl _, .of_eq (by rw [s2]; rfl), trivial⟩
      · exact ⟨.refl _, .arr s2.symm (fun j hj => by show mixL _ _ (mixL _ _ [AV.v (Value.int IntKind.u8 0)]) = _; rw [mixU, mixU, s6 j hj]; rfl) (fun _ => rfl), trivial⟩
      · simp only [ON]; rw [show loN (n / 128) = loN n from (loN_ge (by omega)).symm, s5]
      · show n / 128 < n; omega
    · have h := mt hd.2 (of_decide_eq_false hc)
      obtain ⟨f1, f2⟩ := fin h
      refine ⟨rfl, ?_, ?_⟩
      · simp only [ON, f1, f2, append_empty]; exact LeL.refl _
      · simp only [ON, f1, append_empty]; exact LeH.refl _
  | nil =>
    show (roundE (P := Try.prog) (Γ := Γb) [] Lno false 0 0 loopN [1, 6] [(1, 5)] 30 [.v (.int .i64 (n : Int)), .hs 0 0 t.size] [some (.arr 1 t.size (bsF t))]).sat _
    rw [roundN0]
    refine ⟨fun hc => ?_, fun hc => ?_⟩
    · have h := hd.1 (of_decide_eq_true hc)
      obtain ⟨s1, s2, s3, s4, s5, s6⟩ := stepN hp h
      refine ⟨room' (by omega), rfl, (n / 128, t ++ oneB (n % 128 + 128)), ?_, ?_, s4, ?_, ?_⟩
      · rw [s1]; exact ⟨.refl _, .of_eq (by rw [s2]; rfl), trivial⟩
      · exact ⟨.arr s2.symm (fun j hj => by show mixL _ _ (mixL _ _ [AV.v (Value.int IntKind.u8 0)]) = _; rw [mixU, mixU, s6 j hj]; rfl) (fun _ => rfl), trivial⟩
      · simp only [ON]; rw [show loN (n / 128) = loN n from (loN_ge (by omega)).symm, s5]
      · show n / 128 < n; omega
    · have h := mt hd.2 (of_decide_eq_false hc)
      obtain ⟨f1, f2⟩ := fin h
      refine ⟨rfl, ?_, ?_⟩
      · simp only [ON, f1, f2, append_empty]; exact LeL.refl _
      · simp only [ON, f1, append_empty]; exact LeH.refl _
  | sl b =>
    show (roundE (P := Try.prog) (Γ := Γb) [] Lno false 0 0 loopN [1, 6] [(1, 5)] 30 [.v (.int .i64 (n : Int)), .hs 0 0 t.size] [some (.arr 1 t.size (bsF t))]).sat _
    rw [roundN0]
    refine ⟨fun hc => ?_, fun hc => ?_⟩
    · have h := hd.1 (of_decide_eq_true hc)
      obtain ⟨s1, s2, s3, s4, s5, s6⟩ := stepN hp h
      refine ⟨room' (by omega), rfl, (n / 128, t ++ oneB (n % 128 + 128)), ?_, ?_, s4, ?_, ?_⟩
      · rw [s1]; exact ⟨.refl _, .of_eq (by rw [s2]; rfl), trivial⟩
      · exact ⟨.arr s2.symm (fun j hj => by show mixL _ _ (mixL _ _ [AV.v (Value.int IntKind.u8 0)]) = _; rw [mixU, mixU, s6 j hj]; rfl) (fun _ => rfl), trivial⟩
      · simp only [ON]; rw [show loN (n / 128) = loN n from (loN_ge (by omega)).symm, s5]
      · show n / 128 < n; omega
    · have h := mt hd.2 (of_decide_eq_false hc)
      obtain ⟨f1, f2⟩ := fin h
      refine ⟨rfl, ?_, ?_⟩
      · simp only [ON, f1, f2, append_empty]; exact LeL.refl _
      · simp only [ON, f1, append_empty]; exact LeH.refl _
noncomputable def LN (a : BA) (n : Nat) (t : ByteArray) : Nat → LSpec := fun _ => LSpec.at [1, 6] [(1, 5)] (SN a n t) (ON a n t)
theorem runNn (n : Nat) (h : BA.nil.ok) : bodyE (P := Try.prog) (Γ := Γb) [CT.at 95 (ansClone .nil h)] (LN .nil n ⟨#[]⟩) false 30 [.tmp 4, .tmp 5] (bodyOf Try.f121) [.v (.slice none 0 0), .v (.int .i64 (n : Int))] [] =
  Tree.br (bif decide ((↑n : Int) < (0 : Int)) then true else decide ((4611686018427387904 : Int) < (↑n : Int))) (Tree.leaf (Ans.mk (AV.tup [AV.v (Value.slice none (0 : Nat) (0 : Nat)), AV.v
    (Value.int IntKind.i64 (10 : Int))]) [])) (Tree.chk (cl (LeL [AV.v (Value.slice none (0 : Nat) (0 : Nat))] [AV.v (Value.slice none (0 : Nat) (0 : Nat))] ∧ LeH [] [])) (Tree.chk (cl (LeL
    [AV.v (Value.int IntKind.i64 (↑n : Int)), AV.hs (0 : Nat) (0 : Nat) (0 : Nat)] [AV.v (Value.int IntKind.i64 (↑n : Int)), AV.hs (0 : Nat) (0 : Nat) (0 : Nat)] ∧ LeH [some (Blk.arr (1 :
    Nat) (0 : Nat) fun x => [AV.v (Value.int IntKind.u8 (0 : Int))])] [some (Blk.arr (1 : Nat) (0 : Nat) fun j => [AV.v (Value.int IntKind.u8 (sbyte (ByteArray.mk #[]) j))])])) (Tree.chk
    (roomOk (1 : Nat) (ByteArray.size (ByteArray.mk #[] ++ hiB n) + (1 : Nat))) (Tree.leaf (Ans.mk (AV.tup [AV.hs (0 : Nat) (0 : Nat) (ByteArray.size (ByteArray.mk #[] ++ hiB n) + (1 :
    Nat)), AV.v (Value.int IntKind.i64 (0 : Int))]) [some (Blk.arr (1 : Nat) (ByteArray.size (ByteArray.mk #[] ++ hiB n) + (1 : Nat)) fun j => mixL (decide (j < ByteArray.size (ByteArray.mk
    #[] ++ hiB n))) [AV.v (Value.int IntKind.u8 (sbyte (ByteArray.mk #[] ++ hiB n) ((0 : Nat) + j)))] (chain [AV.v (Value.int IntKind.u8 (0 : Int))] (0 : Nat) [[AV.v (Value.int IntKind.u8
    (IntKind.wrap IntKind.u8 (↑(loN n) : Int)))]] ((0 : Nat) + (j - ByteArray.size (ByteArray.mk #[] ++ hiB n)))))]))))) := by kernel_rfl
theorem runNs (t : ByteArray) (n : Nat) (h : (BA.sl t).ok) : bodyE (P := Try.prog) (Γ := Γb) [CT.at 95 (ansClone (.sl t) h)] (LN (.sl t) n t) false 30 [.tmp 4, .tmp 5] (bodyOf Try.f121) [.sl 1 t.size (bsF t), .v (.int .i64 (n : Int))] [] =
  Tree.br (bif decide ((↑n : Int) < (0 : Int)) then true else decide ((4611686018427387904 : Int) < (↑n : Int))) (Tree.leaf (Ans.mk (AV.tup [AV.v (Value.slice none (0 : Nat) (0 : Nat)), AV.v
    (Value.int IntKind.i64 (10 : Int))]) [])) (Tree.chk (cl (LeL [AV.sl (1 : Nat) (ByteArray.size t) fun j => [AV.v (Value.int IntKind.u8 (sbyte t j))]] [AV.sl (1 : Nat) (ByteArray.size t)
    fun j => [AV.v (Value.int IntKind.u8 (sbyte t j))]] ∧ LeH [] [])) (Tree.chk (cl (LeL [AV.v (Value.int IntKind.i64 (↑n : Int)), AV.hs (0 : Nat) (0 : Nat) (ByteArray.size t)] [AV.v
    (Value.int IntKind.i64 (↑n : Int)), AV.hs (0 : Nat) (0 : Nat) (ByteArray.size t)] ∧ LeH [some (Blk.arr (1 : Nat) (ByteArray.size t) fun j => [AV.v (Value.int IntKind.u8 (sbyte t j))])]
    [some (Blk.arr (1 : Nat) (ByteArray.size t) fun j => [AV.v (Value.int IntKind.u8 (sbyte t j))])])) (Tree.chk (roomOk (1 : Nat) (ByteArray.size (t ++ hiB n) + (1 : Nat))) (Tree.leaf
    (Ans.mk (AV.tup [AV.hs (0 : Nat) (0 : Nat) (ByteArray.size (t ++ hiB n) + (1 : Nat)), AV.v (Value.int IntKind.i64 (0 : Int))]) [some (Blk.arr (1 : Nat) (ByteArray.size (t ++ hiB n) + (1
    : Nat)) fun j => mixL (decide (j < ByteArray.size (t ++ hiB n))) [AV.v (Value.int IntKind.u8 (sbyte (t ++ hiB n) ((0 : Nat) + j)))] (chain [AV.v (Value.int IntKind.u8 (0 : Int))] (0 :
    Nat) [[AV.v (Value.int IntKind.u8 (IntKind.wrap IntKind.u8 (↑(loN n) : Int)))]] ((0 : Nat) + (j - ByteArray.size (t ++ hiB n)))))]))))) := by kernel_rfl
theorem runNh (t : ByteArray) (n : Nat) (h : (BA.hs t).ok) : bodyE (P := Try.prog) (Γ := Γb) [CT.at 95 (ansClone (.hs t) h)] (LN (.hs t) n t) false 30 [.tmp 4, .tmp 5] (bodyOf Try.f121) [.hs 0 0 t.size, .v (.int .i64 (n : Int))] [.arr 1 t.size (bsF t)] =
  Tree.br (bif decide ((↑n : Int) < (0 : Int)) then true else decide ((4611686018427387904 : Int) < (↑n : Int))) (Tree.leaf (Ans.mk (AV.tup [AV.v (Value.slice none (0 : Nat) (0 : Nat)), AV.v
    (Value.int IntKind.i64 (10 : Int))]) [some (Blk.arr (1 : Nat) (ByteArray.size t) fun j => [AV.v (Value.int IntKind.u8 (sbyte t j))])])) (Tree.chk (cl (LeL [AV.hs (0 : Nat) (0 : Nat)
    (ByteArray.size t)] [AV.hs (0 : Nat) (0 : Nat) (ByteArray.size t)] ∧ LeH [some (Blk.arr (1 : Nat) (ByteArray.size t) fun j => [AV.v (Value.int IntKind.u8 (sbyte t j))])] [some (Blk.arr
    (1 : Nat) (ByteArray.size t) fun j => [AV.v (Value.int IntKind.u8 (sbyte t j))])])) (Tree.chk (cl (LeL [AV.v (Value.int IntKind.i64 (↑n : Int)), AV.hs (1 : Nat) (0 : Nat) (ByteArray.size
    t)] [AV.v (Value.int IntKind.i64 (↑n : Int)), AV.hs (1 : Nat) (0 : Nat) (ByteArray.size t)] ∧ LeH [some (Blk.arr (1 : Nat) (ByteArray.size t) fun j => [AV.v (Value.int IntKind.u8 (sbyte
    t j))]), some (Blk.arr (1 : Nat) (ByteArray.size t) fun j => [AV.v (Value.int IntKind.u8 (sbyte t j))])] [some (Blk.arr (1 : Nat) (ByteArray.size t) fun j => [AV.v (Value.int IntKind.u8
    (sbyte t j))]), some (Blk.arr (1 : Nat) (ByteArray.size t) fun j => [AV.v (Value.int IntKind.u8 (sbyte t j))])])) (Tree.chk (roomOk (1 : Nat) (ByteArray.size (t ++ hiB n) + (1 : Nat)))
    (Tree.leaf (Ans.mk (AV.tup [AV.hs (1 : Nat) (0 : Nat) (ByteArray.size (t ++ hiB n) + (1 : Nat)), AV.v (Value.int IntKind.i64 (0 : Int))]) [some (Blk.arr (1 : Nat) (ByteArray.size t) fun
    j => [AV.v (Value.int IntKind.u8 (sbyte t j))]), some (Blk.arr (1 : Nat) (ByteArray.size (t ++ hiB n) + (1 : Nat)) fun j => mixL (decide (j < ByteArray.size (t ++ hiB n))) [AV.v
    (Value.int IntKind.u8 (sbyte (t ++ hiB n) ((0 : Nat) + j)))] (chain [AV.v (Value.int IntKind.u8 (0 : Int))] (0 : Nat) [[AV.v (Value.int IntKind.u8 (IntKind.wrap IntKind.u8 (↑(loN n) :
    Int)))]] ((0 : Nat) + (j - ByteArray.size (t ++ hiB n)))))]))))) := by kernel_rfl
theorem runXn (n : Int) (h : BA.nil.ok) : bodyE (P := Try.prog) (Γ := Γb) [CT.at 95 (ansClone .nil h)] Lno false 30 [.tmp 4, .tmp 5] (bodyOf Try.f121) [.v (.slice none 0 0), .v (.int .i64 n)] [] =
  Tree.br (bif decide (n < (0 : Int)) then true else decide ((4611686018427387904 : Int) < n)) (Tree.leaf (Ans.mk (AV.tup [AV.v (Value.slice none (0 : Nat) (0 : Nat)), AV.v (Value.int
    IntKind.i64 (10 : Int))]) [])) (Tree.chk (cl (LeL [AV.v (Value.slice none (0 : Nat) (0 : Nat))] [AV.v (Value.slice none (0 : Nat) (0 : Nat))] ∧ LeH [] [])) Tree.fail) := by kernel_rfl
theorem runXs (t : ByteArray) (n : Int) (h : (BA.sl t).ok) : bodyE (P := Try.prog) (Γ := Γb) [CT.at 95 (ansClone (.sl t) h)] Lno false 30 [.tmp 4, .tmp 5] (bodyOf Try.f121) [.sl 1 t.size (bsF t), .v (.int .i64 n)] [] =
  Tree.br (bif decide (n < (0 : Int)) then true else decide ((4611686018427387904 : Int) < n)) (Tree.leaf (Ans.mk (AV.tup [AV.v (Value.slice none (0 : Nat) (0 : Nat)), AV.v (Value.int
    IntKind.i64 (10 : Int))]) [])) (Tree.chk (cl (LeL [AV.sl (1 : Nat) (ByteArray.size t) fun j => [AV.v (Value.int IntKind.u8 (sbyte t j))]] [AV.sl (1 : Nat) (ByteArray.size t) fun j =>
    [AV.v (Value.int IntKind.u8 (sbyte t j))]] ∧ LeH [] [])) Tree.fail) := by kernel_rfl
theorem runXh (t : ByteArray) (n : Int) (h : (BA.hs t).ok) : bodyE (P := Try.prog) (Γ := Γb) [CT.at 95 (ansClone (.hs t) h)] Lno false 30 [.tmp 4, .tmp 5] (bodyOf Try.f121) [.hs 0 0 t.size, .v (.int .i64 n)] [.arr 1 t.size (bsF t)] =
  Tree.br (bif decide (n < (0 : Int)) then true else decide ((4611686018427387904 : Int) < n)) (Tree.leaf (Ans.mk (AV.tup [AV.v (Value.slice none (0 : Nat) (0 : Nat)), AV.v (Value.int
    IntKind.i64 (10 : Int))]) [some (Blk.arr (1 : Nat) (ByteArray.size t) fun j => [AV.v (Value.int IntKind.u8 (sbyte t j))])])) (Tree.chk (cl (LeL [AV.hs (0 : Nat) (0 : Nat) (ByteArray.size
    t)] [AV.hs (0 : Nat) (0 : Nat) (ByteArray.size t)] ∧ LeH [some (Blk.arr (1 : Nat) (ByteArray.size t) fun j => [AV.v (Value.int IntKind.u8 (sbyte t j))])] [some (Blk.arr (1 : Nat)
    (ByteArray.size t) fun j => [AV.v (Value.int IntKind.u8 (sbyte t j))])])) Tree.fail) := by kernel_rfl
theorem BA.ok_small : ∀ {a : BA}, a.ok → small a.t
  | .nil, _ => by unfold small BA.t; decide
  | .sl _, h => h.1
  | .hs _, h => h.1
theorem numTail (t : ByteArray) (n : Nat) : (t ++ hiB n).size + 1 = (t ++ numB n).size ∧ ∀ j, j < (t ++ hiB n).size + 1 →
    (bif decide (j < (t ++ hiB n).size) then sbyte (t ++ hiB n) ((0 : Nat) + j) else bif ((0 : Nat) + (j - (t ++ hiB n).size)).beq (0 : Nat) then IntKind.u8.wrap (loN n : Int) else (0 : Int)) = sbyte (t ++ numB n) j := by
  have hl := loN_small n
  refine ⟨by simp [numB]; omega, fun j hj => ?_⟩
  have e : IntKind.u8.wrap (loN n : Int) = ((loN n : Nat) : Int) := by rw [wrapU8]; omega
  rw [e, push_eq (by omega) (by omega) hj, Int.toNat_natCast, numB, ByteArray.append_assoc]
theorem pre_of {t : ByteArray} {n : Nat} (h : small t) (hn : n ≤ 4611686018427387904) : preN (n, t) := by
  have := numB_size hn
  unfold numB at this
  simp only [ByteArray.size_append, oneB_size] at this
  unfold small at h
  refine ⟨hn, ?_⟩
  show t.size + (hiB n).size ≤ _
  omega
theorem notBad {n : Nat} (hn : n ≤ 4611686018427387904) : (bif decide ((n : Int) < (0 : Int)) then true else decide ((4611686018427387904 : Int) < (n : Int))) = false := by
  rw [decide_eq_false (by omega), decide_eq_false (by omega)]; rfl
theorem isBad {n : Int} (hn : n < 0 ∨ 4611686018427387904 < n) : (bif decide (n < (0 : Int)) then true else decide ((4611686018427387904 : Int) < n)) = true := by
  by_cases h : n < 0
  · rw [decide_eq_true h]; rfl
  · rw [decide_eq_false h, decide_eq_true (by omega)]; rfl
theorem roomN {t : ByteArray} {n : Nat} (h : small t) (hn : n ≤ 4611686018427387904) : roomOk 1 ((t ++ hiB n).size + 1) = true := by
  have := (pre_of h hn).2
  simp only at this
  exact room' (by simp only [ByteArray.size_append]; omega)
theorem ansNum : ∀ (a : BA) (n : Nat), a.ok → n ≤ 4611686018427387904 → Answers Try.prog Γb 121 [a.av, .v (.int .i64 (n : Int))] a.bl (.tup [.hs a.n 0 (a.t ++ numB n).size, .v (.int .i64 0)]) (a.bl.map some) [.arr 1 (a.t ++ numB n).size (bsF (a.t ++ numB n))]
  | .nil, n, h, hn => answers (fn := Try.f121) (c := bodyOf Try.f121) (ntmps := 30) (results := [.tmp 4, .tmp 5]) [CT.at 95 (ansClone .nil h)] (LN .nil n ⟨#[]⟩) false Try.func121 (by kernel_rfl) (by kernel_rfl) (by kernel_rfl) (by kernel_rfl) (by simp) rfl
    (oneLoop (b := loopN) (by kernel_rfl) (loopN_ok .nil (n, ⟨#[]⟩) (pre_of (BA.ok_small h) hn)))
    (Meets.of (runNn n h) ⟨fun hc => by rw [notBad hn] at hc; simp at hc, fun _ => ⟨cl_iff.2 ⟨LeL.refl _, trivial⟩, cl_iff.2 ⟨LeL.refl _, .arr rfl (fun j hj => absurd hj (Nat.not_lt_zero _)) (fun _ => rfl), trivial⟩, roomN (BA.ok_small h) hn, by
      obtain ⟨e1, e2⟩ := numTail ⟨#[]⟩ n
      exact ⟨.of_eq (by rw [e1]; rfl), .arr e1 (fun j hj => by show mixL _ _ (mixL _ _ [AV.v (Value.int IntKind.u8 0)]) = _; rw [mixU, mixU, e2 j hj]; rfl) (fun _ => rfl), trivial⟩⟩⟩)
  | .sl t, n, h, hn => answers (fn := Try.f121) (c := bodyOf Try.f121) (ntmps := 30) (results := [.tmp 4, .tmp 5]) [CT.at 95 (ansClone (.sl t) h)] (LN (.sl t) n t) false Try.func121 (by kernel_rfl) (by kernel_rfl) (by kernel_rfl) (by kernel_rfl) (by simp) rfl
    (oneLoop (b := loopN) (by kernel_rfl) (loopN_ok (.sl t) (n, t) (pre_of (BA.ok_small h) hn)))
    (Meets.of (runNs t n h) ⟨fun hc => by rw [notBad hn] at hc; simp at hc, fun _ => ⟨cl_iff.2 ⟨LeL.refl _, LeH.refl _⟩, cl_iff.2 ⟨LeL.refl _, LeH.refl _⟩, roomN (BA.ok_small h) hn, by
      obtain ⟨e1, e2⟩ := numTail t n
      exact ⟨.of_eq (by rw [e1]; rfl), .arr e1 (fun j hj => by show mixL _ _ (mixL _ _ [AV.v (Value.int IntKind.u8 0)]) = _; rw [mixU, mixU, e2 j hj]; rfl) (fun _ => rfl), trivial⟩⟩⟩)
  | .hs t, n, h, hn => answers (fn := Try.f121) (c := bodyOf Try.f121) (ntmps := 30) (results := [.tmp 4, .tmp 5]) [CT.at 95 (ansClone (.hs t) h)] (LN (.hs t) n t) false Try.func121 (by kernel_rfl) (by kernel_rfl) (by kernel_rfl) (by kernel_rfl) (by simp) rfl
    (oneLoop (b := loopN) (by kernel_rfl) (loopN_ok (.hs t) (n, t) (pre_of (BA.ok_small h) hn)))
    (Meets.of (runNh t n h) ⟨fun hc => by rw [notBad hn] at hc; simp at hc, fun _ => ⟨cl_iff.2 ⟨LeL.refl _, LeH.refl _⟩, cl_iff.2 ⟨LeL.refl _, LeH.refl _⟩, roomN (BA.ok_small h) hn, by
      obtain ⟨e1, e2⟩ := numTail t n
      exact ⟨.of_eq (by rw [e1]; rfl), .refl _, .arr e1 (fun j hj => by show mixL _ _ (mixL _ _ [AV.v (Value.int IntKind.u8 0)]) = _; rw [mixU, mixU, e2 j hj]; rfl) (fun _ => rfl), trivial⟩⟩⟩)
theorem ansBad : ∀ (a : BA) (n : Int), a.ok → n < 0 ∨ 4611686018427387904 < n → Answers Try.prog Γb 121 [a.av, .v (.int .i64 n)] a.bl (.tup [.v (.slice none 0 0), .v (.int .i64 10)]) (a.bl.map some) []
  | .nil, n, h, hn => answers (fn := Try.f121) (c := bodyOf Try.f121) (ntmps := 30) (results := [.tmp 4, .tmp 5]) [CT.at 95 (ansClone .nil h)] Lno false Try.func121 (by kernel_rfl) (by kernel_rfl) (by kernel_rfl) (by kernel_rfl) (by simp) rfl
    (fun _ _ _ => fail_ok) (Meets.of (runXn n h) ⟨fun _ => ⟨.refl _, trivial⟩, fun hc => by rw [isBad hn] at hc; simp at hc⟩)
  | .sl t, n, h, hn => answers (fn := Try.f121) (c := bodyOf Try.f121) (ntmps := 30) (results := [.tmp 4, .tmp 5]) [CT.at 95 (ansClone (.sl t) h)] Lno false Try.func121 (by kernel_rfl) (by kernel_rfl) (by kernel_rfl) (by kernel_rfl) (by simp) rfl
    (fun _ _ _ => fail_ok) (Meets.of (runXs t n h) ⟨fun _ => ⟨.refl _, trivial⟩, fun hc => by rw [isBad hn] at hc; simp at hc⟩)
  | .hs t, n, h, hn => answers (fn := Try.f121) (c := bodyOf Try.f121) (ntmps := 30) (results := [.tmp 4, .tmp 5]) [CT.at 95 (ansClone (.hs t) h)] Lno false Try.func121 (by kernel_rfl) (by kernel_rfl) (by kernel_rfl) (by kernel_rfl) (by simp) rfl
    (fun _ _ _ => fail_ok) (Meets.of (runXh t n h) ⟨fun _ => ⟨.refl _, .refl _, trivial⟩, fun hc => by rw [isBad hn] at hc; simp at hc⟩)
end Go.Eng.SB

namespace Go.Eng.SB
open Go Go.Eng Go.Proofs
noncomputable def loopR : Code := loopOf (bodyOf Try.f84) 0
theorem roundR (n : Nat) (t : ByteArray) : roundE (P := Try.prog) (Γ := Γb) [] Lno false 0 0 loopR [0, 4] [] 29 [.v (.int .i64 (n : Int)), .v (.string t)] [] =
  Tree.br (decide ((127 : Int) < (↑n : Int))) (Tree.chk true (Tree.chk (allBytes (1 : Nat) fun j => chain [AV.v (Value.int IntKind.u8 (0 : Int))] (0 : Nat) [[AV.v (Value.int IntKind.u8
    (IntKind.wrap IntKind.u8 (IntKind.wrap IntKind.i64 (Int.tmod (↑n : Int) (128 : Int) + (128 : Int)))))]] ((0 : Nat) + j)) (Tree.chk (decide (ByteArray.size t + (1 : Nat) ≤
    (9223372036854775807 : Nat))) (Tree.chk true (Tree.leaf (Out.mk AEx.normal [AV.v (Value.int IntKind.i64 (IntKind.wrap IntKind.i64 (Int.tdiv (↑n : Int) (128 : Int)))), AV.v (Value.string
    (t ++ textOf (1 : Nat) fun j => chain [AV.v (Value.int IntKind.u8 (0 : Int))] (0 : Nat) [[AV.v (Value.int IntKind.u8 (IntKind.wrap IntKind.u8 (IntKind.wrap IntKind.i64 (Int.tmod (↑n :
    Int) (128 : Int) + (128 : Int)))))]] ((0 : Nat) + j)))] [])))))) (Tree.leaf (Out.mk (AEx.exit (0 : Nat)) [AV.v (Value.int IntKind.i64 (↑n : Int)), AV.v (Value.string t)] [])) := by kernel_rfl
def SR (n : Nat) (t : ByteArray) : List AV × Heap := ([.v (.int .i64 (n : Int)), .v (.string t)], [])
def OR (n : Nat) (t : ByteArray) : Out := ⟨.exit 0, [.v (.int .i64 (loN n : Int)), .v (.string (t ++ hiB n))], []⟩
theorem digitR (n : Nat) : IntKind.u8.wrap (IntKind.i64.wrap ((n : Int).tmod (128 : Int) + (128 : Int))) = ((n % 128 + 128 : Nat) : Int) := by
  rw [show (128 : Int) = ((128 : Nat) : Int) from rfl, tmod_nat, wrap64E, wrapU8]
  omega
theorem loopR_ok : ∀ x : Nat × ByteArray, preN x → LoopOK Try.prog Γb 0 29 loopR (LSpec.at [0, 4] [] (SR x.1 x.2) (OR x.1 x.2)) := by
  refine loop_at (S := fun x : Nat × ByteArray => SR x.1 x.2) (O := fun x => OR x.1 x.2) (k := 0) (fun x => x.1) fun x hp => ⟨[], Lno, false, noLoops (by kernel_rfl), ?_⟩
  obtain ⟨n, t⟩ := x
  show (roundE (P := Try.prog) (Γ := Γb) [] Lno false 0 0 loopR [0, 4] [] 29 [.v (.int .i64 (n : Int)), .v (.string t)] []).sat _
  rw [roundR]
  have hp1 : n ≤ 4611686018427387904 := hp.1
  have hp2 : t.size + (hiB n).size ≤ 1000000100 := hp.2
  refine ⟨fun hc => ?_, fun hc => ?_⟩
  · have h : (127 : Int) < (n : Int) := of_decide_eq_true hc
    have hge : ¬ n < 128 := by omega
    have e1 := hiB_ge hge
    rw [e1] at hp2
    simp only [ByteArray.size_append, oneB_size] at hp2
    have e2 : IntKind.i64.wrap ((n : Int).tdiv (128 : Int)) = ((n / 128 : Nat) : Int) := by
      rw [show (128 : Int) = ((128 : Nat) : Int) from rfl, tdiv_nat, wrap64E]
      omega
    refine ⟨rfl, rfl, decide_eq_true (by omega), rfl, (n / 128, t ++ oneB (n % 128 + 128)), ?_, trivial, ⟨?_, ?_⟩, ?_, ?_⟩
    · simp only [textOf_one, digitR, Int.toNat_natCast, e2]
      exact ⟨.refl _, .refl _, trivial⟩
    · show n / 128 ≤ _; omega
    · show (t ++ oneB (n % 128 + 128)).size + (hiB (n / 128)).size ≤ _
      simp only [ByteArray.size_append, oneB_size]; omega
    · simp only [OR]; rw [show loN (n / 128) = loN n from (loN_ge hge).symm, e1, ByteArray.append_assoc]
    · show n / 128 < n; omega
  · have h : ¬ (127 : Int) < (n : Int) := of_decide_eq_false hc
    refine ⟨rfl, ?_, trivial⟩
    simp only [OR, hiB_lt (show n < 128 by omega), loN_lt (show n < 128 by omega), append_empty]
    exact LeL.refl _
def okN (n : Int) : Bool := decide (0 ≤ n) && decide (n ≤ 4611686018427387904)
def capN (n : Int) : Nat := min n.toNat 4611686018427387904
theorem capN_nat {k : Nat} (h : k ≤ 4611686018427387904) : capN (k : Int) = k := by
  unfold capN
  rw [Int.toNat_natCast]
  exact Nat.min_eq_left h
noncomputable def LR : List KC → Nat → LSpec
  | [.i n] => fun _ => LSpec.at [0, 4] [] (SR (capN n) ⟨#[]⟩) (OR (capN n) ⟨#[]⟩)
  | _ => Lno
noncomputable def gR : List KC → AV
  | [.i n] => .tup [.v (.string (bif okN n then numB n.toNat else ⟨#[]⟩)), .sb (okN n)]
  | _ => .any
theorem runR (n : Int) : bodyE (P := Try.prog) (Γ := Γb) [] (LR [.i n]) false 29 [.tmp 2, .tmp 3] (bodyOf Try.f84) [.v (.int .i64 n)] [] =
  Tree.br (bif decide (n < (0 : Int)) then true else decide ((4611686018427387904 : Int) < n)) (Tree.leaf (Ans.mk (AV.tup [AV.v (Value.string (ByteArray.mk #[])), AV.v (Value.bool false)])
    [])) (Tree.chk (cl (LeL [AV.v (Value.int IntKind.i64 n), AV.v (Value.string (ByteArray.mk #[]))] [AV.v (Value.int IntKind.i64 (↑(capN n) : Int)), AV.v (Value.string (ByteArray.mk #[]))]
    ∧ LeH [] [])) (Tree.chk (allBytes (1 : Nat) fun j => chain [AV.v (Value.int IntKind.u8 (0 : Int))] (0 : Nat) [[AV.v (Value.int IntKind.u8 (IntKind.wrap IntKind.u8 (↑(loN (capN n)) :
    Int)))]] ((0 : Nat) + j)) (Tree.chk (decide (ByteArray.size (ByteArray.mk #[] ++ hiB (capN n)) + (1 : Nat) ≤ (9223372036854775807 : Nat))) (Tree.leaf (Ans.mk (AV.tup [AV.v (Value.string
    (ByteArray.mk #[] ++ hiB (capN n) ++ textOf (1 : Nat) fun j => chain [AV.v (Value.int IntKind.u8 (0 : Int))] (0 : Nat) [[AV.v (Value.int IntKind.u8 (IntKind.wrap IntKind.u8 (↑(loN (capN
    n)) : Int)))]] ((0 : Nat) + j))), AV.v (Value.bool true)]) []))))) := by kernel_rfl
theorem badN (n : Int) : (bif decide (n < (0 : Int)) then true else decide ((4611686018427387904 : Int) < n)) = !okN n := by
  unfold okN
  by_cases h : n < 0
  · rw [decide_eq_true h, decide_eq_false (show ¬ 0 ≤ n by omega)]; rfl
  · rw [decide_eq_false h, decide_eq_true (show 0 ≤ n by omega)]
    by_cases h2 : 4611686018427387904 < n
    · rw [decide_eq_true h2, decide_eq_false (show ¬ n ≤ 4611686018427387904 by omega)]; rfl
    · rw [decide_eq_false h2, decide_eq_true (show n ≤ 4611686018427387904 by omega)]; rfl
theorem okN_nat {n : Int} (h : okN n = true) : ∃ k : Nat, n = k ∧ k ≤ 4611686018427387904 := by
  unfold okN at h
  simp only [Bool.and_eq_true, decide_eq_true_eq] at h
  exact ⟨n.toNat, by omega, by omega⟩
theorem small_nil : small ⟨#[]⟩ := by unfold small; decide
theorem givesR (n : Int) : Gives (bodyE (P := Try.prog) (Γ := Γb) [] (LR [.i n]) false 29 [.tmp 2, .tmp 3] (bodyOf Try.f84) [.v (.int .i64 n)] []) (.tup [.v (.string (bif okN n then numB n.toNat else ⟨#[]⟩)), .sb (okN n)]) := by
  refine Gives.of (runR n) ?_
  rw [badN]
  cases hok : okN n with
  | false => exact ⟨fun _ => ⟨le_tup ⟨.refl _, .bs _, trivial⟩, trivial⟩, fun hc => by simp at hc⟩
  | true =>
    obtain ⟨k, rfl, hk⟩ := okN_nat hok
    have hl := loN_small k
    have hp : ((⟨#[]⟩ : ByteArray).size) + (hiB k).size ≤ 1000000100 := (pre_of small_nil hk).2
    have e : IntKind.u8.wrap (loN k : Int) = ((loN k : Nat) : Int) := by rw [wrapU8]; omega
    refine ⟨fun hc => by simp at hc, fun _ => ⟨cl_iff.2 ⟨by rw [capN_nat hk]; exact LeL.refl _, trivial⟩, rfl, decide_eq_true (by rw [capN_nat hk]; simp only [ByteArray.size_append] at *; omega), ?_, trivial⟩⟩
    simp only [capN_nat hk, Int.toNat_natCast, textOf_one, e, empty_append]
    exact le_tup ⟨.refl _, .bs _, trivial⟩
theorem fit1c {c : Cel} {l : List KC} (h : kFit [c] l = true) : ∃ x, l = [x] ∧ kcFit c x = true := by
  match l, h with
  | [x], h => simp only [kFit, Bool.and_true] at h; exact ⟨x, rfl, h⟩
  | [], h => simp [kFit] at h
  | _ :: _ :: _, h => simp [kFit] at h
noncomputable def Z.c84 : CT Try.prog Γb := CT.funL 84 Try.f84 (bodyOf Try.f84) [] LR false 29 [.tmp 2, .tmp 3] [.c (.int .i64)] (fun l => match l with | [.i n] => true | _ => false) gR Try.func84 (by kernel_rfl) (by kernel_rfl) (by kernel_rfl) (by kernel_rfl) (by decide)
  (fun l h _ => by
    obtain ⟨x, rfl, hx⟩ := fit1c h
    cases x <;> simp [kcFit] at hx
    rename_i n _
    exact oneLoop (b := loopR) (by kernel_rfl) (loopR_ok (capN n, ⟨#[]⟩) (pre_of small_nil (Nat.min_le_right _ _))))
  (fun l h _ => by
    obtain ⟨x, rfl, hx⟩ := fit1c h
    cases x <;> simp [kcFit] at hx
    exact givesR _)
end Go.Eng.SB

namespace Go.Eng.SB
open Go Go.Eng Go.Proofs
inductive NA where
  | nil
  | sl (m : Nat) (g : Nat → Int)
  | hs (m : Nat) (g : Nat → Int)
def NA.m : NA → Nat
  | .nil => 0
  | .sl m _ => m
  | .hs m _ => m
def NA.g : NA → Nat → Int
  | .nil => fun _ => 0
  | .sl _ g => g
  | .hs _ g => g
def i64F (g : Nat → Int) : Nat → List AV := fun j => [.v (.int .i64 (g j))]
def NA.av : NA → AV
  | .nil => .v (.slice none 0 0)
  | .sl m g => .sl 1 m (i64F g)
  | .hs m _ => .hs 0 0 m
def NA.bl : NA → List Blk
  | .hs m g => [.arr 1 m (i64F g)]
  | _ => []
def NA.k : NA → Nat
  | .hs _ _ => 1
  | _ => 0
def catN (g : Nat → Int) : Nat → ByteArray
  | 0 => ⟨#[]⟩
  | i + 1 => catN g i ++ numB (g i).toNat
def outV (k : Nat) (g : Nat → Int) : Nat → AV
  | 0 => .v (.slice none 0 0)
  | i + 1 => .hs k 0 (catN g (i + 1)).size
def outB (g : Nat → Int) : Nat → Heap
  | 0 => []
  | i + 1 => [some (.arr 1 (catN g (i + 1)).size (bsF (catN g (i + 1))))]
noncomputable def loopM : Code := loopOf (bodyOf Try.f82) 0
def SM (a : NA) (i : Nat) : List AV × Heap := ([.any, .any, outV a.k a.g i, a.av, .v (.int .i64 (a.m : Int)), .v (.int .i64 (i : Int))], a.bl.map some ++ outB a.g i)
def OMg (a : NA) : Out := ⟨.exit 0, [.any, .any, outV a.k a.g a.m, .any, .any, .any], a.bl.map some ++ outB a.g a.m⟩
def OMb (a : NA) : Out := ⟨.ret, [.v (.slice none 0 0), .v (.int .i64 10), .any, .any, .any, .any], a.bl.map some⟩
theorem catN_small {g : Nat → Int} : ∀ {i : Nat}, (∀ j, j < i → okN (g j) = true) → (catN g i).size ≤ 9 * i ∧ (0 < i → 0 < (catN g i).size)
  | 0, _ => ⟨Nat.zero_le _, fun h => by omega⟩
  | i + 1, h => by
    obtain ⟨h1, _⟩ := catN_small (g := g) (i := i) fun j hj => h j (by omega)
    obtain ⟨k, hk, hk2⟩ := okN_nat (h i (by omega))
    have := numB_size hk2
    simp only [catN, ByteArray.size_append, hk, Int.toNat_natCast]
    omega
theorem small_cat {g : Nat → Int} {i : Nat} (h : ∀ j, j < i → okN (g j) = true) (hi : i ≤ 100000) : small (catN g i) := by
  have := (catN_small h).1
  unfold small; omega
theorem roundMn  : roundE (P := Try.prog) (Γ := Γb) [] Lno false 0 0 loopM [2, 3, 4, 8, 9, 10] [] 25 [.any, .any, .v (.slice none 0 0), .v (.slice none 0 0), .v (.int .i64 (0 : Nat)), .v (.int .i64 (0 : Nat))] [] =
  Tree.br false Tree.fail (Tree.leaf (Out.mk (AEx.exit (0 : Nat)) [AV.any, AV.any, AV.v (Value.slice none (0 : Nat) (0 : Nat)), AV.v (Value.slice none (0 : Nat) (0 : Nat)), AV.v (Value.int
    IntKind.i64 (↑(0 : Nat) : Int)), AV.v (Value.int IntKind.i64 (↑(0 : Nat) : Int))] [])) := by kernel_rfl
theorem roundMs0 (m : Nat) (g : Nat → Int) (n : Nat) (h : n ≤ 4611686018427387904) : roundE (P := Try.prog) (Γ := Γb) [CT.at 121 (ansNum .nil n trivial h)] Lno false 0 0 loopM [2, 3, 4, 8, 9, 10] [] 25 [.any, .any, .v (.slice none 0 0), .sl 1 m (i64F g), .v (.int .i64 (m : Int)), .v (.int .i64 (0 : Nat))] [] =
  Tree.br (decide ((↑(0 : Nat) : Int) < (↑m : Int))) (Tree.chk (decide ((↑(0 : Nat) : Int) < (↑m : Int))) (Tree.chk (cl (LeL [AV.v (Value.slice none (0 : Nat) (0 : Nat)), AV.v (Value.int
    IntKind.i64 (g (Int.toNat (↑(0 : Nat) : Int))))] [AV.v (Value.slice none (0 : Nat) (0 : Nat)), AV.v (Value.int IntKind.i64 (↑n : Int))] ∧ LeH [] [])) (Tree.br false (Tree.leaf (Out.mk
    AEx.ret [AV.v (Value.slice none (0 : Nat) (0 : Nat)), AV.v (Value.int IntKind.i64 (0 : Int)), AV.hs (0 : Nat) (0 : Nat) (ByteArray.size (BA.t BA.nil ++ numB n)), AV.sl (1 : Nat) m fun j
    => [AV.v (Value.int IntKind.i64 (g j))], AV.v (Value.int IntKind.i64 (↑m : Int)), AV.v (Value.int IntKind.i64 (↑(0 : Nat) : Int))] [some (Blk.arr (1 : Nat) (ByteArray.size (BA.t BA.nil
    ++ numB n)) fun j => [AV.v (Value.int IntKind.u8 (sbyte (BA.t BA.nil ++ numB n) j))])])) (Tree.leaf (Out.mk AEx.normal [AV.any, AV.any, AV.hs (0 : Nat) (0 : Nat) (ByteArray.size (BA.t
    BA.nil ++ numB n)), AV.sl (1 : Nat) m fun j => [AV.v (Value.int IntKind.i64 (g j))], AV.v (Value.int IntKind.i64 (↑m : Int)), AV.v (Value.int IntKind.i64 (IntKind.wrap IntKind.i64 ((↑(0
    : Nat) : Int) + (1 : Int))))] [some (Blk.arr (1 : Nat) (ByteArray.size (BA.t BA.nil ++ numB n)) fun j => [AV.v (Value.int IntKind.u8 (sbyte (BA.t BA.nil ++ numB n) j))])]))))) (Tree.leaf
    (Out.mk (AEx.exit (0 : Nat)) [AV.any, AV.any, AV.v (Value.slice none (0 : Nat) (0 : Nat)), AV.sl (1 : Nat) m fun j => [AV.v (Value.int IntKind.i64 (g j))], AV.v (Value.int IntKind.i64
    (↑m : Int)), AV.v (Value.int IntKind.i64 (↑(0 : Nat) : Int))] [])) := by kernel_rfl
theorem roundMs1 (m : Nat) (g : Nat → Int) (n i : Nat) (t : ByteArray) (ht : (BA.hs t).ok) (h : n ≤ 4611686018427387904) : roundE (P := Try.prog) (Γ := Γb) [CT.at 121 (ansNum (.hs t) n ht h)] Lno false 0 0 loopM [2, 3, 4, 8, 9, 10] [] 25 [.any, .any, .hs 0 0 t.size, .sl 1 m (i64F g), .v (.int .i64 (m : Int)), .v (.int .i64 (i : Int))] [some (.arr 1 t.size (bsF t))] =
  Tree.br (decide ((↑i : Int) < (↑m : Int))) (Tree.chk (decide ((0 : Int) ≤ (↑i : Int)) && decide ((↑i : Int) < (↑m : Int))) (Tree.chk (cl (LeL [AV.hs (0 : Nat) (0 : Nat) (ByteArray.size t),
    AV.v (Value.int IntKind.i64 (g (Int.toNat (↑i : Int))))] [AV.hs (0 : Nat) (0 : Nat) (ByteArray.size t), AV.v (Value.int IntKind.i64 (↑n : Int))] ∧ LeH [some (Blk.arr (1 : Nat)
    (ByteArray.size t) fun j => [AV.v (Value.int IntKind.u8 (sbyte t j))])] [some (Blk.arr (1 : Nat) (ByteArray.size t) fun j => [AV.v (Value.int IntKind.u8 (sbyte t j))])])) (Tree.br false
    (Tree.leaf (Out.mk AEx.ret [AV.v (Value.slice none (0 : Nat) (0 : Nat)), AV.v (Value.int IntKind.i64 (0 : Int)), AV.hs (0 : Nat) (0 : Nat) (ByteArray.size (BA.t (BA.hs t) ++ numB n)),
    AV.sl (1 : Nat) m fun j => [AV.v (Value.int IntKind.i64 (g j))], AV.v (Value.int IntKind.i64 (↑m : Int)), AV.v (Value.int IntKind.i64 (↑i : Int))] [some (Blk.arr (1 : Nat)
    (ByteArray.size (BA.t (BA.hs t) ++ numB n)) fun j => [AV.v (Value.int IntKind.u8 (sbyte (BA.t (BA.hs t) ++ numB n) j))])])) (Tree.leaf (Out.mk AEx.normal [AV.any, AV.any, AV.hs (0 : Nat)
    (0 : Nat) (ByteArray.size (BA.t (BA.hs t) ++ numB n)), AV.sl (1 : Nat) m fun j => [AV.v (Value.int IntKind.i64 (g j))], AV.v (Value.int IntKind.i64 (↑m : Int)), AV.v (Value.int
    IntKind.i64 (IntKind.wrap IntKind.i64 ((↑i : Int) + (1 : Int))))] [some (Blk.arr (1 : Nat) (ByteArray.size (BA.t (BA.hs t) ++ numB n)) fun j => [AV.v (Value.int IntKind.u8 (sbyte (BA.t
    (BA.hs t) ++ numB n) j))])]))))) (Tree.leaf (Out.mk (AEx.exit (0 : Nat)) [AV.any, AV.any, AV.hs (0 : Nat) (0 : Nat) (ByteArray.size t), AV.sl (1 : Nat) m fun j => [AV.v (Value.int
    IntKind.i64 (g j))], AV.v (Value.int IntKind.i64 (↑m : Int)), AV.v (Value.int IntKind.i64 (↑i : Int))] [some (Blk.arr (1 : Nat) (ByteArray.size t) fun j => [AV.v (Value.int IntKind.u8
    (sbyte t j))])])) := by kernel_rfl
theorem roundMh0 (m : Nat) (g : Nat → Int) (n : Nat) (h : n ≤ 4611686018427387904) : roundE (P := Try.prog) (Γ := Γb) [CT.at 121 (ansNum .nil n trivial h)] Lno false 1 0 loopM [2, 3, 4, 8, 9, 10] [] 25 [.any, .any, .v (.slice none 0 0), .hs 0 0 m, .v (.int .i64 (m : Int)), .v (.int .i64 (0 : Nat))] [some (.arr 1 m (i64F g))] =
  Tree.br (decide ((↑(0 : Nat) : Int) < (↑m : Int))) (Tree.chk (decide ((↑(0 : Nat) : Int) < (↑m : Int))) (Tree.chk (cl (LeL [AV.v (Value.slice none (0 : Nat) (0 : Nat)), AV.v (Value.int
    IntKind.i64 (g ((0 : Nat) + Int.toNat (↑(0 : Nat) : Int))))] [AV.v (Value.slice none (0 : Nat) (0 : Nat)), AV.v (Value.int IntKind.i64 (↑n : Int))] ∧ LeH [] [])) (Tree.br false
    (Tree.leaf (Out.mk AEx.ret [AV.v (Value.slice none (0 : Nat) (0 : Nat)), AV.v (Value.int IntKind.i64 (0 : Int)), AV.hs (1 : Nat) (0 : Nat) (ByteArray.size (BA.t BA.nil ++ numB n)), AV.hs
    (0 : Nat) (0 : Nat) m, AV.v (Value.int IntKind.i64 (↑m : Int)), AV.v (Value.int IntKind.i64 (↑(0 : Nat) : Int))] [some (Blk.arr (1 : Nat) m fun j => [AV.v (Value.int IntKind.i64 (g
    j))]), some (Blk.arr (1 : Nat) (ByteArray.size (BA.t BA.nil ++ numB n)) fun j => [AV.v (Value.int IntKind.u8 (sbyte (BA.t BA.nil ++ numB n) j))])])) (Tree.leaf (Out.mk AEx.normal
    [AV.any, AV.any, AV.hs (1 : Nat) (0 : Nat) (ByteArray.size (BA.t BA.nil ++ numB n)), AV.hs (0 : Nat) (0 : Nat) m, AV.v (Value.int IntKind.i64 (↑m : Int)), AV.v (Value.int IntKind.i64
    (IntKind.wrap IntKind.i64 ((↑(0 : Nat) : Int) + (1 : Int))))] [some (Blk.arr (1 : Nat) m fun j => [AV.v (Value.int IntKind.i64 (g j))]), some (Blk.arr (1 : Nat) (ByteArray.size (BA.t
    BA.nil ++ numB n)) fun j => [AV.v (Value.int IntKind.u8 (sbyte (BA.t BA.nil ++ numB n) j))])]))))) (Tree.leaf (Out.mk (AEx.exit (0 : Nat)) [AV.any, AV.any, AV.v (Value.slice none (0 :
    Nat) (0 : Nat)), AV.hs (0 : Nat) (0 : Nat) m, AV.v (Value.int IntKind.i64 (↑m : Int)), AV.v (Value.int IntKind.i64 (↑(0 : Nat) : Int))] [some (Blk.arr (1 : Nat) m fun j => [AV.v
    (Value.int IntKind.i64 (g j))])])) := by kernel_rfl
theorem roundMh1 (m : Nat) (g : Nat → Int) (n i : Nat) (t : ByteArray) (ht : (BA.hs t).ok) (h : n ≤ 4611686018427387904) : roundE (P := Try.prog) (Γ := Γb) [CT.at 121 (ansNum (.hs t) n ht h)] Lno false 1 0 loopM [2, 3, 4, 8, 9, 10] [] 25 [.any, .any, .hs 1 0 t.size, .hs 0 0 m, .v (.int .i64 (m : Int)), .v (.int .i64 (i : Int))] [some (.arr 1 m (i64F g)), some (.arr 1 t.size (bsF t))] =
  Tree.br (decide ((↑i : Int) < (↑m : Int))) (Tree.chk (decide ((0 : Int) ≤ (↑i : Int)) && decide ((↑i : Int) < (↑m : Int))) (Tree.chk (cl (LeL [AV.hs (0 : Nat) (0 : Nat) (ByteArray.size t),
    AV.v (Value.int IntKind.i64 (g ((0 : Nat) + Int.toNat (↑i : Int))))] [AV.hs (0 : Nat) (0 : Nat) (ByteArray.size t), AV.v (Value.int IntKind.i64 (↑n : Int))] ∧ LeH [some (Blk.arr (1 :
    Nat) (ByteArray.size t) fun j => [AV.v (Value.int IntKind.u8 (sbyte t j))])] [some (Blk.arr (1 : Nat) (ByteArray.size t) fun j => [AV.v (Value.int IntKind.u8 (sbyte t j))])])) (Tree.br
    false (Tree.leaf (Out.mk AEx.ret [AV.v (Value.slice none (0 : Nat) (0 : Nat)), AV.v (Value.int IntKind.i64 (0 : Int)), AV.hs (1 : Nat) (0 : Nat) (ByteArray.size (BA.t (BA.hs t) ++ numB
    n)), AV.hs (0 : Nat) (0 : Nat) m, AV.v (Value.int IntKind.i64 (↑m : Int)), AV.v (Value.int IntKind.i64 (↑i : Int))] [some (Blk.arr (1 : Nat) m fun j => [AV.v (Value.int IntKind.i64 (g
    j))]), some (Blk.arr (1 : Nat) (ByteArray.size (BA.t (BA.hs t) ++ numB n)) fun j => [AV.v (Value.int IntKind.u8 (sbyte (BA.t (BA.hs t) ++ numB n) j))])])) (Tree.leaf (Out.mk AEx.normal
    [AV.any, AV.any, AV.hs (1 : Nat) (0 : Nat) (ByteArray.size (BA.t (BA.hs t) ++ numB n)), AV.hs (0 : Nat) (0 : Nat) m, AV.v (Value.int IntKind.i64 (↑m : Int)), AV.v (Value.int IntKind.i64
    (IntKind.wrap IntKind.i64 ((↑i : Int) + (1 : Int))))] [some (Blk.arr (1 : Nat) m fun j => [AV.v (Value.int IntKind.i64 (g j))]), some (Blk.arr (1 : Nat) (ByteArray.size (BA.t (BA.hs t)
    ++ numB n)) fun j => [AV.v (Value.int IntKind.u8 (sbyte (BA.t (BA.hs t) ++ numB n) j))])]))))) (Tree.leaf (Out.mk (AEx.exit (0 : Nat)) [AV.any, AV.any, AV.hs (1 : Nat) (0 : Nat)
    (ByteArray.size t), AV.hs (0 : Nat) (0 : Nat) m, AV.v (Value.int IntKind.i64 (↑m : Int)), AV.v (Value.int IntKind.i64 (↑i : Int))] [some (Blk.arr (1 : Nat) m fun j => [AV.v (Value.int
    IntKind.i64 (g j))]), some (Blk.arr (1 : Nat) (ByteArray.size t) fun j => [AV.v (Value.int IntKind.u8 (sbyte t j))])])) := by kernel_rfl
theorem roundMb0 (m : Nat) (g : Nat → Int) (n : Int) (h : n < 0 ∨ 4611686018427387904 < n) : roundE (P := Try.prog) (Γ := Γb) [CT.at 121 (ansBad .nil n trivial h)] Lno false 0 0 loopM [2, 3, 4, 8, 9, 10] [] 25 [.any, .any, .v (.slice none 0 0), .sl 1 m (i64F g), .v (.int .i64 (m : Int)), .v (.int .i64 (0 : Nat))] [] =
  Tree.br (decide ((↑(0 : Nat) : Int) < (↑m : Int))) (Tree.chk (decide ((↑(0 : Nat) : Int) < (↑m : Int))) (Tree.chk (cl (LeL [AV.v (Value.slice none (0 : Nat) (0 : Nat)), AV.v (Value.int
    IntKind.i64 (g (Int.toNat (↑(0 : Nat) : Int))))] [AV.v (Value.slice none (0 : Nat) (0 : Nat)), AV.v (Value.int IntKind.i64 n)] ∧ LeH [] [])) (Tree.br true (Tree.leaf (Out.mk AEx.ret
    [AV.v (Value.slice none (0 : Nat) (0 : Nat)), AV.v (Value.int IntKind.i64 (10 : Int)), AV.v (Value.slice none (0 : Nat) (0 : Nat)), AV.sl (1 : Nat) m fun j => [AV.v (Value.int
    IntKind.i64 (g j))], AV.v (Value.int IntKind.i64 (↑m : Int)), AV.v (Value.int IntKind.i64 (↑(0 : Nat) : Int))] [])) (Tree.leaf (Out.mk AEx.normal [AV.any, AV.any, AV.v (Value.slice none
    (0 : Nat) (0 : Nat)), AV.sl (1 : Nat) m fun j => [AV.v (Value.int IntKind.i64 (g j))], AV.v (Value.int IntKind.i64 (↑m : Int)), AV.v (Value.int IntKind.i64 (IntKind.wrap IntKind.i64
    ((↑(0 : Nat) : Int) + (1 : Int))))] []))))) (Tree.leaf (Out.mk (AEx.exit (0 : Nat)) [AV.any, AV.any, AV.v (Value.slice none (0 : Nat) (0 : Nat)), AV.sl (1 : Nat) m fun j => [AV.v
    (Value.int IntKind.i64 (g j))], AV.v (Value.int IntKind.i64 (↑m : Int)), AV.v (Value.int IntKind.i64 (↑(0 : Nat) : Int))] [])) := by kernel_rfl
theorem roundMb1 (m : Nat) (g : Nat → Int) (n : Int) (i : Nat) (t : ByteArray) (ht : (BA.hs t).ok) (h : n < 0 ∨ 4611686018427387904 < n) : roundE (P := Try.prog) (Γ := Γb) [CT.at 121 (ansBad (.hs t) n ht h)] Lno false 0 0 loopM [2, 3, 4, 8, 9, 10] [] 25 [.any, .any, .hs 0 0 t.size, .sl 1 m (i64F g), .v (.int .i64 (m : Int)), .v (.int .i64 (i : Int))] [some (.arr 1 t.size (bsF t))] =
  Tree.br (decide ((↑i : Int) < (↑m : Int))) (Tree.chk (decide ((0 : Int) ≤ (↑i : Int)) && decide ((↑i : Int) < (↑m : Int))) (Tree.chk (cl (LeL [AV.hs (0 : Nat) (0 : Nat) (ByteArray.size t),
    AV.v (Value.int IntKind.i64 (g (Int.toNat (↑i : Int))))] [AV.hs (0 : Nat) (0 : Nat) (ByteArray.size t), AV.v (Value.int IntKind.i64 n)] ∧ LeH [some (Blk.arr (1 : Nat) (ByteArray.size t)
    fun j => [AV.v (Value.int IntKind.u8 (sbyte t j))])] [some (Blk.arr (1 : Nat) (ByteArray.size t) fun j => [AV.v (Value.int IntKind.u8 (sbyte t j))])])) (Tree.br true (Tree.leaf (Out.mk
    AEx.ret [AV.v (Value.slice none (0 : Nat) (0 : Nat)), AV.v (Value.int IntKind.i64 (10 : Int)), AV.v (Value.slice none (0 : Nat) (0 : Nat)), AV.sl (1 : Nat) m fun j => [AV.v (Value.int
    IntKind.i64 (g j))], AV.v (Value.int IntKind.i64 (↑m : Int)), AV.v (Value.int IntKind.i64 (↑i : Int))] [])) (Tree.leaf (Out.mk AEx.normal [AV.any, AV.any, AV.v (Value.slice none (0 :
    Nat) (0 : Nat)), AV.sl (1 : Nat) m fun j => [AV.v (Value.int IntKind.i64 (g j))], AV.v (Value.int IntKind.i64 (↑m : Int)), AV.v (Value.int IntKind.i64 (IntKind.wrap IntKind.i64 ((↑i :
    Int) + (1 : Int))))] []))))) (Tree.leaf (Out.mk (AEx.exit (0 : Nat)) [AV.any, AV.any, AV.hs (0 : Nat) (0 : Nat) (ByteArray.size t), AV.sl (1 : Nat) m fun j => [AV.v (Value.int
    IntKind.i64 (g j))], AV.v (Value.int IntKind.i64 (↑m : Int)), AV.v (Value.int IntKind.i64 (↑i : Int))] [some (Blk.arr (1 : Nat) (ByteArray.size t) fun j => [AV.v (Value.int IntKind.u8
    (sbyte t j))])])) := by kernel_rfl
theorem pick {g : Nat → Int} {m i : Nat} (hok : ∀ j, j < m → okN (g j) = true) : ∃ k : Nat, k ≤ 4611686018427387904 ∧ (i < m → g i = k) := by
  by_cases h : i < m
  · obtain ⟨k, h1, h2⟩ := okN_nat (hok i h)
    exact ⟨k, h2, fun _ => h1⟩
  · exact ⟨0, by decide, fun h' => absurd h' h⟩
theorem hs_ok {g : Nat → Int} {i : Nat} (h : ∀ j, j < i + 1 → okN (g j) = true) (hi : i + 1 ≤ 100000) : (BA.hs (catN g (i + 1))).ok := ⟨small_cat h hi, (catN_small h).2 (by omega)⟩
theorem loopMg_ok (a : NA) (hok : ∀ j, j < a.m → okN (a.g j) = true) (hm : a.m ≤ 100000) : ∀ i, i ≤ a.m → LoopOK Try.prog Γb a.bl.length 25 loopM (LSpec.at [2, 3, 4, 8, 9, 10] [] (SM a i) (OMg a)) := by
  refine loop_at (S := SM a) (pre := fun i => i ≤ a.m) (O := fun _ => OMg a) (k := 0) (fun i => a.m - i) fun i hi => ?_
  cases a with
  | nil =>
    obtain rfl : i = 0 := Nat.le_zero.1 hi
    refine ⟨[], Lno, false, noLoops (by kernel_rfl), ?_⟩
    show (roundE (P := Try.prog) (Γ := Γb) [] Lno false 0 0 loopM [2, 3, 4, 8, 9, 10] [] 25 [.any, .any, .v (.slice none 0 0), .v (.slice none 0 0), .v (.int .i64 (0 : Nat)), .v (.int .i64 (0 : Nat))] []).sat _
    rw [roundMn]
    exact ⟨fun h => by simp at h, fun _ => ⟨rfl, ⟨.any _, .any _, .refl _, .any _, .any _, .any _, trivial⟩, trivial⟩⟩
  | sl m g =>
    have hok : ∀ j, j < m → okN (g j) = true := hok
    have hm : m ≤ 100000 := hm
    obtain ⟨n, hn, hg⟩ := pick (i := i) hok
    cases i with
    | zero =>
      refine ⟨[CT.at 121 (ansNum .nil n trivial hn)], Lno, false, noLoops (by kernel_rfl), ?_⟩
      show (roundE (P := Try.prog) (Γ := Γb) [CT.at 121 (ansNum .nil n trivial hn)] Lno false 0 0 loopM [2, 3, 4, 8, 9, 10] [] 25 [.any, .any, .v (.slice none 0 0), .sl 1 m (i64F g), .v (.int .i64 (m : Int)), .v (.int .i64 (0 : Nat))] []).sat _
      rw [roundMs0 m g n hn]
      refine ⟨fun hc => ?_, fun hc => ?_⟩
      · have hlt : 0 < m := by have := of_decide_eq_true hc; omega
        have h := hg hlt
        have e : BA.nil.t ++ numB n = catN g (0 + 1) := by
          show catN g (0) ++ numB n = catN g (0) ++ numB (g (0)).toNat
          rw [h, Int.toNat_natCast]
        have e3 : IntKind.i64.wrap (((0 : Nat) : Int) + (1 : Int)) = ((0 + 1 : Nat) : Int) := by rw [wrap64E]; omega
        rw [e, e3]
        refine ⟨by first | exact hc | (rw [Bool.true_and]; exact hc), cl_iff.2 ⟨⟨.refl _, .of_eq (by simp only [Int.toNat_natCast]; rw [h]), trivial⟩, trivial⟩, fun h => by simp at h, fun _ => ⟨0 + 1, LeL.refl _, LeH.refl _, hlt, rfl, ?_⟩⟩
        show m - (0 + 1) < m - (0); omega
      · have h := of_decide_eq_false hc
        obtain rfl : m = 0 := by have h2 : 0 ≤ m := hi; omega
        exact ⟨rfl, ⟨.any _, .any _, .refl _, .any _, .any _, .any _, trivial⟩, LeH.refl _⟩
    | succ i =>
      have hb : (BA.hs (catN g (i + 1))).ok := hs_ok (fun j hj => hok j (Nat.lt_of_lt_of_le hj hi)) (Nat.le_trans hi hm)
      refine ⟨[CT.at 121 (ansNum (.hs (catN g (i + 1))) n hb hn)], Lno, false, noLoops (by kernel_rfl), ?_⟩
      show (roundE (P := Try.prog) (Γ := Γb) [CT.at 121 (ansNum (.hs (catN g (i + 1))) n hb hn)] Lno false 0 0 loopM [2, 3, 4, 8, 9, 10] [] 25 [.any, .any, .hs 0 0 (catN g (i + 1)).size, .sl 1 m (i64F g), .v (.int .i64 (m : Int)), .v (.int .i64 ((i + 1 : Nat) : Int))] [some (.arr 1 (catN g (i + 1)).size (bsF (catN g (i + 1))))]).sat _
      rw [roundMs1 m g n (i + 1) (catN g (i + 1)) hb hn]
      refine ⟨fun hc => ?_, fun hc => ?_⟩
      · have hlt : i + 1 < m := by have := of_decide_eq_true hc; omega
        have h := hg hlt
        have e : (BA.hs (catN g (i + 1))).t ++ numB n = catN g (i + 1 + 1) := by
          show catN g (i + 1) ++ numB n = catN g (i + 1) ++ numB (g (i + 1)).toNat
          rw [h, Int.toNat_natCast]
        have e3 : IntKind.i64.wrap (((i + 1 : Nat) : Int) + (1 : Int)) = ((i + 1 + 1 : Nat) : Int) := by rw [wrap64E]; omega
        rw [e, e3]
        refine ⟨by rw [hc]; simp; omega, cl_iff.2 ⟨⟨.refl _, .of_eq (by simp only [Int.toNat_natCast]; rw [h]), trivial⟩, LeH.refl _⟩, fun h => by simp at h, fun _ => ⟨i + 1 + 1, LeL.refl _, LeH.refl _, hlt, rfl, ?_⟩⟩
        show m - (i + 1 + 1) < m - (i + 1); omega
      · have h := of_decide_eq_false hc
        obtain rfl : m = i + 1 := by have h2 : i + 1 ≤ m := hi; omega
        exact ⟨rfl, ⟨.any _, .any _, .refl _, .any _, .any _, .any _, trivial⟩, LeH.refl _⟩
  | hs m g =>
    have hok : ∀ j, j < m → okN (g j) = true := hok
    have hm : m ≤ 100000 := hm
    obtain ⟨n, hn, hg⟩ := pick (i := i) hok
    cases i with
    | zero =>
      refine ⟨[CT.at 121 (ansNum .nil n trivial hn)], Lno, false, noLoops (by kernel_rfl), ?_⟩
      show (roundE (P := Try.prog) (Γ := Γb) [CT.at 121 (ansNum .nil n trivial hn)] Lno false 1 0 loopM [2, 3, 4, 8, 9, 10] [] 25 [.any, .any, .v (.slice none 0 0), .hs 0 0 m, .v (.int .i64 (m : Int)), .v (.int .i64 (0 : Nat))] [some (.arr 1 m (i64F g))]).sat _
      rw [roundMh0 m g n hn]
      refine ⟨fun hc => ?_, fun hc => ?_⟩
      · have hlt : 0 < m := by have := of_decide_eq_true hc; omega
        have h := hg hlt
        have e : BA.nil.t ++ numB n = catN g (0 + 1) := by
          show catN g (0) ++ numB n = catN g (0) ++ numB (g (0)).toNat
          rw [h, Int.toNat_natCast]
        have e3 : IntKind.i64.wrap (((0 : Nat) : Int) + (1 : Int)) = ((0 + 1 : Nat) : Int) := by rw [wrap64E]; omega
        rw [e, e3]
        refine ⟨by first | exact hc | (rw [Bool.true_and]; exact hc), cl_iff.2 ⟨⟨.refl _, .of_eq (by simp only [Int.toNat_natCast, Nat.zero_add]; rw [h]), trivial⟩, trivial⟩, fun h => by simp at h, fun _ => ⟨0 + 1, LeL.refl _, LeH.refl _, hlt, rfl, ?_⟩⟩
        show m - (0 + 1) < m - (0); omega
      · have h := of_decide_eq_false hc
        obtain rfl : m = 0 := by have h2 : 0 ≤ m := hi; omega
        exact ⟨rfl, ⟨.any _, .any _, .refl _, .any _, .any _, .any _, trivial⟩, LeH.refl _⟩
    | succ i =>
      have hb : (BA.hs (catN g (i + 1))).ok := hs_ok (fun j hj => hok j (Nat.lt_of_lt_of_le hj hi)) (Nat.le_trans hi hm)
      refine ⟨[CT.at 121 (ansNum (.hs (catN g (i + 1))) n hb hn)], Lno, false, noLoops (by kernel_rfl), ?_⟩
      show (roundE (P := Try.prog) (Γ := Γb) [CT.at 121 (ansNum (.hs (catN g (i + 1))) n hb hn)] Lno false 1 0 loopM [2, 3, 4, 8, 9, 10] [] 25 [.any, .any, .hs 1 0 (catN g (i + 1)).size, .hs 0 0 m, .v (.int .i64 (m : Int)), .v (.int .i64 ((i + 1 : Nat) : Int))] [some (.arr 1 m (i64F g)), some (.arr 1 (catN g (i + 1)).size (bsF (catN g (i + 1))))]).sat _
      rw [roundMh1 m g n (i + 1) (catN g (i + 1)) hb hn]
      refine ⟨fun hc => ?_, fun hc => ?_⟩
      · have hlt : i + 1 < m := by have := of_decide_eq_true hc; omega
        have h := hg hlt
        have e : (BA.hs (catN g (i + 1))).t ++ numB n = catN g (i + 1 + 1) := by
          show catN g (i + 1) ++ numB n = catN g (i + 1) ++ numB (g (i + 1)).toNat
          rw [h, Int.toNat_natCast]
        have e3 : IntKind.i64.wrap (((i + 1 : Nat) : Int) + (1 : Int)) = ((i + 1 + 1 : Nat) : Int) := by rw [wrap64E]; omega
        rw [e, e3]
        refine ⟨by rw [hc]; simp; omega, cl_iff.2 ⟨⟨.refl _, .of_eq (by simp only [Int.toNat_natCast, Nat.zero_add]; rw [h]), trivial⟩, LeH.refl _⟩, fun h => by simp at h, fun _ => ⟨i + 1 + 1, LeL.refl _, LeH.refl _, hlt, rfl, ?_⟩⟩
        show m - (i + 1 + 1) < m - (i + 1); omega
      · have h := of_decide_eq_false hc
        obtain rfl : m = i + 1 := by have h2 : i + 1 ≤ m := hi; omega
        exact ⟨rfl, ⟨.any _, .any _, .refl _, .any _, .any _, .any _, trivial⟩, LeH.refl _⟩
theorem okN_bad {n : Int} (h : okN n = false) : n < 0 ∨ 4611686018427387904 < n := by
  unfold okN at h
  by_cases h1 : n < 0
  · exact .inl h1
  · rw [decide_eq_true (show 0 ≤ n by omega), Bool.true_and, decide_eq_false_iff_not] at h
    exact .inr (by omega)
theorem loopMb_ok (m : Nat) (g : Nat → Int) (b : Nat) (hb : b < m) (hok : ∀ j, j < b → okN (g j) = true) (hbad : okN (g b) = false) (hm : m ≤ 100000) : ∀ i, i ≤ b → LoopOK Try.prog Γb 0 25 loopM (LSpec.at [2, 3, 4, 8, 9, 10] [] (SM (.sl m g) i) (OMb (.sl m g))) := by
  refine loop_at (S := SM (.sl m g)) (pre := fun i => i ≤ b) (O := fun _ => OMb (.sl m g)) (k := 0) (fun i => b - i) fun i hi => ?_
  rcases Nat.lt_or_ge i b with hib | hib
  · obtain ⟨n, hg, hn⟩ := okN_nat (hok i hib)
    cases i with
    | zero =>
      refine ⟨[CT.at 121 (ansNum .nil n trivial hn)], Lno, false, noLoops (by kernel_rfl), ?_⟩
      show (roundE (P := Try.prog) (Γ := Γb) [CT.at 121 (ansNum .nil n trivial hn)] Lno false 0 0 loopM [2, 3, 4, 8, 9, 10] [] 25 [.any, .any, .v (.slice none 0 0), .sl 1 m (i64F g), .v (.int .i64 (m : Int)), .v (.int .i64 (0 : Nat))] []).sat _
      rw [roundMs0 m g n hn]
      refine ⟨fun hc => ?_, fun hc => ?_⟩
      · have hlt : 0 < m := by have := of_decide_eq_true hc; omega
        have h := hg
        have e : BA.nil.t ++ numB n = catN g (0 + 1) := by
          show catN g (0) ++ numB n = catN g (0) ++ numB (g (0)).toNat
          rw [h, Int.toNat_natCast]
        have e3 : IntKind.i64.wrap (((0 : Nat) : Int) + (1 : Int)) = ((0 + 1 : Nat) : Int) := by rw [wrap64E]; omega
        rw [e, e3]
        refine ⟨by first | exact hc | (rw [Bool.true_and]; exact hc), cl_iff.2 ⟨⟨.refl _, .of_eq (by simp only [Int.toNat_natCast]; rw [h]), trivial⟩, trivial⟩, fun h => by simp at h, fun _ => ⟨0 + 1, LeL.refl _, LeH.refl _, Nat.succ_le_of_lt hib, rfl, ?_⟩⟩
        show b - (0 + 1) < b - (0); omega
      · have h := of_decide_eq_false hc
        omega
    | succ i =>
      have hb' : (BA.hs (catN g (i + 1))).ok := hs_ok (fun j hj => hok j (Nat.lt_of_lt_of_le hj hi)) (by omega)
      refine ⟨[CT.at 121 (ansNum (.hs (catN g (i + 1))) n hb' hn)], Lno, false, noLoops (by kernel_rfl), ?_⟩
      show (roundE (P := Try.prog) (Γ := Γb) [CT.at 121 (ansNum (.hs (catN g (i + 1))) n hb' hn)] Lno false 0 0 loopM [2, 3, 4, 8, 9, 10] [] 25 [.any, .any, .hs 0 0 (catN g (i + 1)).size, .sl 1 m (i64F g), .v (.int .i64 (m : Int)), .v (.int .i64 ((i + 1 : Nat) : Int))] [some (.arr 1 (catN g (i + 1)).size (bsF (catN g (i + 1))))]).sat _
      rw [roundMs1 m g n (i + 1) (catN g (i + 1)) hb' hn]
      refine ⟨fun hc => ?_, fun hc => ?_⟩
      · have hlt : i + 1 < m := by have := of_decide_eq_true hc; omega
        have h := hg
        have e : (BA.hs (catN g (i + 1))).t ++ numB n = catN g (i + 1 + 1) := by
          show catN g (i + 1) ++ numB n = catN g (i + 1) ++ numB (g (i + 1)).toNat
          rw [h, Int.toNat_natCast]
        have e3 : IntKind.i64.wrap (((i + 1 : Nat) : Int) + (1 : Int)) = ((i + 1 + 1 : Nat) : Int) := by rw [wrap64E]; omega
        rw [e, e3]
        refine ⟨by rw [hc]; simp; omega, cl_iff.2 ⟨⟨.refl _, .of_eq (by simp only [Int.toNat_natCast]; rw [h]), trivial⟩, LeH.refl _⟩, fun h => by simp at h, fun _ => ⟨i + 1 + 1, LeL.refl _, LeH.refl _, Nat.succ_le_of_lt hib, rfl, ?_⟩⟩
        show b - (i + 1 + 1) < b - (i + 1); omega
      · have h := of_decide_eq_false hc
        omega
  · obtain rfl : i = b := Nat.le_antisymm hi hib
    have hn := okN_bad hbad
    cases i with
    | zero =>
      refine ⟨[CT.at 121 (ansBad .nil (g 0) trivial hn)], Lno, false, noLoops (by kernel_rfl), ?_⟩
      show (roundE (P := Try.prog) (Γ := Γb) [CT.at 121 (ansBad .nil (g 0) trivial hn)] Lno false 0 0 loopM [2, 3, 4, 8, 9, 10] [] 25 [.any, .any, .v (.slice none 0 0), .sl 1 m (i64F g), .v (.int .i64 (m : Int)), .v (.int .i64 (0 : Nat))] []).sat _
      rw [roundMb0 m g (g 0) hn]
      have hc : decide (((0 : Nat) : Int) < (m : Int)) = true := decide_eq_true (by omega)
      rw [hc]
      exact ⟨fun _ => ⟨rfl, cl_iff.2 ⟨LeL.refl _, trivial⟩, fun _ => ⟨rfl, ⟨.refl _, .refl _, .any _, .any _, .any _, .any _, trivial⟩, trivial⟩, fun h => by simp at h⟩, fun h => by simp at h⟩
    | succ i =>
      have hb' : (BA.hs (catN g (i + 1))).ok := hs_ok (fun j hj => hok j hj) (by omega)
      refine ⟨[CT.at 121 (ansBad (.hs (catN g (i + 1))) (g (i + 1)) hb' hn)], Lno, false, noLoops (by kernel_rfl), ?_⟩
      show (roundE (P := Try.prog) (Γ := Γb) [CT.at 121 (ansBad (.hs (catN g (i + 1))) (g (i + 1)) hb' hn)] Lno false 0 0 loopM [2, 3, 4, 8, 9, 10] [] 25 [.any, .any, .hs 0 0 (catN g (i + 1)).size, .sl 1 m (i64F g), .v (.int .i64 (m : Int)), .v (.int .i64 ((i + 1 : Nat) : Int))] [some (.arr 1 (catN g (i + 1)).size (bsF (catN g (i + 1))))]).sat _
      rw [roundMb1 m g (g (i + 1)) (i + 1) (catN g (i + 1)) hb' hn]
      have hc : decide (((i + 1 : Nat) : Int) < (m : Int)) = true := decide_eq_true (by omega)
      rw [hc]
      exact ⟨fun _ => ⟨by rw [decide_eq_true (show (0 : Int) ≤ ((i + 1 : Nat) : Int) by omega)]; rfl, cl_iff.2 ⟨LeL.refl _, LeH.refl _⟩, fun _ => ⟨rfl, ⟨.refl _, .refl _, .any _, .any _, .any _, .any _, trivial⟩, trivial⟩, fun h => by simp at h⟩, fun h => by simp at h⟩
theorem runMg (a : NA) (m : Nat) (g : Nat → Int) : bodyE (P := Try.prog) (Γ := Γb) [] (fun _ => LSpec.at [2, 3, 4, 8, 9, 10] [] (SM (.sl (m + 1) g) 0) (OMg (.sl (m + 1) g))) false 25 [.tmp 2, .tmp 3] (bodyOf Try.f82) [.sl 1 (m + 1) (i64F g)] [] =
  Tree.chk (cl (LeL [AV.v (Value.slice none (0 : Nat) (0 : Nat)), AV.v (Value.int IntKind.i64 (0 : Int)), AV.v (Value.slice none (0 : Nat) (0 : Nat)), AV.sl (1 : Nat) (m + (1 : Nat)) fun j =>
    [AV.v (Value.int IntKind.i64 (g j))], AV.v (Value.int IntKind.i64 (↑(m + (1 : Nat)) : Int)), AV.v (Value.int IntKind.i64 (0 : Int))] [AV.any, AV.any, AV.v (Value.slice none (0 : Nat) (0
    : Nat)), AV.sl (1 : Nat) (m + (1 : Nat)) fun j => [AV.v (Value.int IntKind.i64 (g j))], AV.v (Value.int IntKind.i64 (↑(NA.m (NA.sl (m + (1 : Nat)) g)) : Int)), AV.v (Value.int
    IntKind.i64 (↑(0 : Nat) : Int))] ∧ LeH [] [])) (Tree.leaf (Ans.mk (AV.tup [AV.hs (0 : Nat) (0 : Nat) (ByteArray.size (catN (NA.g (NA.sl (m + (1 : Nat)) g)) (Nat.add._f Nat.zero
    PUnit.unit m + (1 : Nat)))), AV.v (Value.int IntKind.i64 (0 : Int))]) [some (Blk.arr (1 : Nat) (ByteArray.size (catN (NA.g (NA.sl (m + (1 : Nat)) g)) (Nat.add._f Nat.zero PUnit.unit m +
    (1 : Nat)))) fun j => [AV.v (Value.int IntKind.u8 (sbyte (catN (NA.g (NA.sl (m + (1 : Nat)) g)) (Nat.add._f Nat.zero PUnit.unit m + (1 : Nat))) j))])])) := by kernel_rfl
theorem runM0 (g : Nat → Int) : bodyE (P := Try.prog) (Γ := Γb) [] (fun _ => LSpec.at [2, 3, 4, 8, 9, 10] [] (SM (.sl 0 g) 0) (OMg (.sl 0 g))) false 25 [.tmp 2, .tmp 3] (bodyOf Try.f82) [.sl 1 0 (i64F g)] [] =
  Tree.chk (cl (LeL [AV.v (Value.slice none (0 : Nat) (0 : Nat)), AV.v (Value.int IntKind.i64 (0 : Int)), AV.v (Value.slice none (0 : Nat) (0 : Nat)), AV.sl (1 : Nat) (0 : Nat) fun j => [AV.v
    (Value.int IntKind.i64 (g j))], AV.v (Value.int IntKind.i64 (↑(0 : Nat) : Int)), AV.v (Value.int IntKind.i64 (0 : Int))] [AV.any, AV.any, AV.v (Value.slice none (0 : Nat) (0 : Nat)),
    AV.sl (1 : Nat) (0 : Nat) fun j => [AV.v (Value.int IntKind.i64 (g j))], AV.v (Value.int IntKind.i64 (↑(0 : Nat) : Int)), AV.v (Value.int IntKind.i64 (↑(0 : Nat) : Int))] ∧ LeH [] []))
    (Tree.leaf (Ans.mk (AV.tup [AV.v (Value.slice none (0 : Nat) (0 : Nat)), AV.v (Value.int IntKind.i64 (0 : Int))]) [])) := by kernel_rfl
theorem runMn  : bodyE (P := Try.prog) (Γ := Γb) [] (fun _ => LSpec.at [2, 3, 4, 8, 9, 10] [] (SM .nil 0) (OMg .nil)) false 25 [.tmp 2, .tmp 3] (bodyOf Try.f82) [.v (.slice none 0 0)] [] =
  Tree.chk (cl (LeL [AV.v (Value.slice none (0 : Nat) (0 : Nat)), AV.v (Value.int IntKind.i64 (0 : Int)), AV.v (Value.slice none (0 : Nat) (0 : Nat)), AV.v (Value.slice none (0 : Nat) (0 :
    Nat)), AV.v (Value.int IntKind.i64 (0 : Int)), AV.v (Value.int IntKind.i64 (0 : Int))] [AV.any, AV.any, AV.v (Value.slice none (0 : Nat) (0 : Nat)), AV.v (Value.slice none (0 : Nat) (0 :
    Nat)), AV.v (Value.int IntKind.i64 (↑(0 : Nat) : Int)), AV.v (Value.int IntKind.i64 (↑(0 : Nat) : Int))] ∧ LeH [] [])) (Tree.leaf (Ans.mk (AV.tup [AV.v (Value.slice none (0 : Nat) (0 :
    Nat)), AV.v (Value.int IntKind.i64 (0 : Int))]) [])) := by kernel_rfl
theorem runMh (m : Nat) (g : Nat → Int) : bodyE (P := Try.prog) (Γ := Γb) [] (fun _ => LSpec.at [2, 3, 4, 8, 9, 10] [] (SM (.hs (m + 1) g) 0) (OMg (.hs (m + 1) g))) false 25 [.tmp 2, .tmp 3] (bodyOf Try.f82) [.hs 0 0 (m + 1)] [.arr 1 (m + 1) (i64F g)] =
  Tree.chk (cl (LeL [AV.v (Value.slice none (0 : Nat) (0 : Nat)), AV.v (Value.int IntKind.i64 (0 : Int)), AV.v (Value.slice none (0 : Nat) (0 : Nat)), AV.hs (0 : Nat) (0 : Nat) (m + (1 :
    Nat)), AV.v (Value.int IntKind.i64 (↑(m + (1 : Nat)) : Int)), AV.v (Value.int IntKind.i64 (0 : Int))] [AV.any, AV.any, AV.v (Value.slice none (0 : Nat) (0 : Nat)), AV.hs (0 : Nat) (0 :
    Nat) (m + (1 : Nat)), AV.v (Value.int IntKind.i64 (↑(NA.m (NA.hs (m + (1 : Nat)) g)) : Int)), AV.v (Value.int IntKind.i64 (↑(0 : Nat) : Int))] ∧ LeH [some (Blk.arr (1 : Nat) (m + (1 :
    Nat)) fun j => [AV.v (Value.int IntKind.i64 (g j))])] [some (Blk.arr (1 : Nat) (m + (1 : Nat)) fun j => [AV.v (Value.int IntKind.i64 (g j))])])) (Tree.leaf (Ans.mk (AV.tup [AV.hs (1 :
    Nat) (0 : Nat) (ByteArray.size (catN (NA.g (NA.hs (m + (1 : Nat)) g)) (Nat.add._f Nat.zero PUnit.unit m + (1 : Nat)))), AV.v (Value.int IntKind.i64 (0 : Int))]) [some (Blk.arr (1 : Nat)
    (m + (1 : Nat)) fun j => [AV.v (Value.int IntKind.i64 (g j))]), some (Blk.arr (1 : Nat) (ByteArray.size (catN (NA.g (NA.hs (m + (1 : Nat)) g)) (Nat.add._f Nat.zero PUnit.unit m + (1 :
    Nat)))) fun j => [AV.v (Value.int IntKind.u8 (sbyte (catN (NA.g (NA.hs (m + (1 : Nat)) g)) (Nat.add._f Nat.zero PUnit.unit m + (1 : Nat))) j))])])) := by kernel_rfl
theorem runMb (m : Nat) (g : Nat → Int) : bodyE (P := Try.prog) (Γ := Γb) [] (fun _ => LSpec.at [2, 3, 4, 8, 9, 10] [] (SM (.sl m g) 0) (OMb (.sl m g))) false 25 [.tmp 2, .tmp 3] (bodyOf Try.f82) [.sl 1 m (i64F g)] [] =
  Tree.chk (cl (LeL [AV.v (Value.slice none (0 : Nat) (0 : Nat)), AV.v (Value.int IntKind.i64 (0 : Int)), AV.v (Value.slice none (0 : Nat) (0 : Nat)), AV.sl (1 : Nat) m fun j => [AV.v
    (Value.int IntKind.i64 (g j))], AV.v (Value.int IntKind.i64 (↑m : Int)), AV.v (Value.int IntKind.i64 (0 : Int))] [AV.any, AV.any, AV.v (Value.slice none (0 : Nat) (0 : Nat)), AV.sl (1 :
    Nat) m fun j => [AV.v (Value.int IntKind.i64 (g j))], AV.v (Value.int IntKind.i64 (↑(NA.m (NA.sl m g)) : Int)), AV.v (Value.int IntKind.i64 (↑(0 : Nat) : Int))] ∧ LeH [] [])) (Tree.leaf
    (Ans.mk (AV.tup [AV.v (Value.slice none (0 : Nat) (0 : Nat)), AV.v (Value.int IntKind.i64 (10 : Int))]) [])) := by kernel_rfl
def outBl (g : Nat → Int) : Nat → List Blk
  | 0 => []
  | i + 1 => [.arr 1 (catN g (i + 1)).size (bsF (catN g (i + 1)))]
def NA.ok (a : NA) : Prop := (∀ j, j < a.m → okN (a.g j) = true) ∧ a.m ≤ 100000 ∧ (a.k = 1 → 0 < a.m)
theorem ansNums : ∀ (a : NA), a.ok → Answers Try.prog Γb 82 [a.av] a.bl (.tup [outV a.k a.g a.m, .v (.int .i64 0)]) (a.bl.map some) (outBl a.g a.m)
  | .nil, h => answers (fn := Try.f82) (c := bodyOf Try.f82) (ntmps := 25) (results := [.tmp 2, .tmp 3]) [] (fun _ => LSpec.at [2, 3, 4, 8, 9, 10] [] (SM .nil 0) (OMg .nil)) false Try.func82 (by kernel_rfl) (by kernel_rfl) (by kernel_rfl) (by kernel_rfl) (by simp) rfl
    (oneLoop (b := loopM) (by kernel_rfl) (loopMg_ok .nil h.1 h.2.1 0 (Nat.zero_le _))) (Meets.of runMn ⟨cl_iff.2 ⟨⟨.any _, .any _, .refl _, .refl _, .refl _, .refl _, trivial⟩, trivial⟩, .refl _, trivial⟩)
  | .sl 0 g, h => answers (fn := Try.f82) (c := bodyOf Try.f82) (ntmps := 25) (results := [.tmp 2, .tmp 3]) [] (fun _ => LSpec.at [2, 3, 4, 8, 9, 10] [] (SM (.sl 0 g) 0) (OMg (.sl 0 g))) false Try.func82 (by kernel_rfl) (by kernel_rfl) (by kernel_rfl) (by kernel_rfl) (by simp) rfl
    (oneLoop (b := loopM) (by kernel_rfl) (loopMg_ok (.sl 0 g) h.1 h.2.1 0 (Nat.zero_le _))) (Meets.of (runM0 g) ⟨cl_iff.2 ⟨⟨.any _, .any _, .refl _, .refl _, .refl _, .refl _, trivial⟩, trivial⟩, .refl _, trivial⟩)
  | .sl (m + 1) g, h => answers (fn := Try.f82) (c := bodyOf Try.f82) (ntmps := 25) (results := [.tmp 2, .tmp 3]) [] (fun _ => LSpec.at [2, 3, 4, 8, 9, 10] [] (SM (.sl (m + 1) g) 0) (OMg (.sl (m + 1) g))) false Try.func82 (by kernel_rfl) (by kernel_rfl) (by kernel_rfl) (by kernel_rfl) (by simp) rfl
    (oneLoop (b := loopM) (by kernel_rfl) (loopMg_ok (.sl (m + 1) g) h.1 h.2.1 0 (Nat.zero_le _))) (Meets.of (runMg .nil m g) ⟨cl_iff.2 ⟨⟨.any _, .any _, .refl _, .refl _, .refl _, .refl _, trivial⟩, trivial⟩, .refl _, .refl _, trivial⟩)
  | .hs (m + 1) g, h => answers (fn := Try.f82) (c := bodyOf Try.f82) (ntmps := 25) (results := [.tmp 2, .tmp 3]) [] (fun _ => LSpec.at [2, 3, 4, 8, 9, 10] [] (SM (.hs (m + 1) g) 0) (OMg (.hs (m + 1) g))) false Try.func82 (by kernel_rfl) (by kernel_rfl) (by kernel_rfl) (by kernel_rfl) (by simp) rfl
    (oneLoop (b := loopM) (by kernel_rfl) (loopMg_ok (.hs (m + 1) g) h.1 h.2.1 0 (Nat.zero_le _))) (Meets.of (runMh m g) ⟨cl_iff.2 ⟨⟨.any _, .any _, .refl _, .refl _, .refl _, .refl _, trivial⟩, LeH.refl _⟩, .refl _, .refl _, .refl _, trivial⟩)
  | .hs 0 g, h => absurd (h.2.2 rfl) (Nat.lt_irrefl _)
theorem ansNumsBad (m : Nat) (g : Nat → Int) (b : Nat) (hb : b < m) (hok : ∀ j, j < b → okN (g j) = true) (hbad : okN (g b) = false) (hm : m ≤ 100000) : Answers Try.prog Γb 82 [.sl 1 m (i64F g)] [] (.tup [.v (.slice none 0 0), .v (.int .i64 10)]) [] [] :=
  answers (fn := Try.f82) (c := bodyOf Try.f82) (ntmps := 25) (results := [.tmp 2, .tmp 3]) [] (fun _ => LSpec.at [2, 3, 4, 8, 9, 10] [] (SM (.sl m g) 0) (OMb (.sl m g))) false Try.func82 (by kernel_rfl) (by kernel_rfl) (by kernel_rfl) (by kernel_rfl) (by simp) rfl
    (oneLoop (b := loopM) (by kernel_rfl) (loopMb_ok m g b hb hok hbad hm 0 (Nat.zero_le _))) (Meets.of (runMb m g) ⟨cl_iff.2 ⟨⟨.any _, .any _, .refl _, .refl _, .refl _, .refl _, trivial⟩, trivial⟩, .refl _, trivial⟩)
theorem ansNumsS (m : Nat) (g : Nat → Int) (h : (NA.sl (m + 1) g).ok) : Answers Try.prog Γb 82 [.sl 1 (m + 1) (i64F g)] [] (.tup [.hs 0 0 (catN g (m + 1)).size, .v (.int .i64 0)]) [] [.arr 1 (catN g (m + 1)).size (bsF (catN g (m + 1)))] := ansNums (.sl (m + 1) g) h
theorem ansNums0 (g : Nat → Int) (h : (NA.sl 0 g).ok) : Answers Try.prog Γb 82 [.sl 1 0 (i64F g)] [] (.tup [.v (.slice none 0 0), .v (.int .i64 0)]) [] [] := ansNums (.sl 0 g) h
theorem ansNumsN (h : NA.nil.ok) : Answers Try.prog Γb 82 [.v (.slice none 0 0)] [] (.tup [.v (.slice none 0 0), .v (.int .i64 0)]) [] [] := ansNums .nil h
theorem allBytes0 (n : Nat) (t : ByteArray) : (allBytes n fun j => [AV.v (Value.int IntKind.u8 (sbyte t ((0 : Nat) + j)))]) = true := by
  simp only [Nat.zero_add]; exact allBytes_bsF n t
theorem textOf0 (t : ByteArray) : (textOf t.size fun j => [AV.v (Value.int IntKind.u8 (sbyte t ((0 : Nat) + j)))]) = t := by
  simp only [Nat.zero_add]; exact textOf_bsF t
theorem okN_of {n : Nat} (h : n ≤ 4611686018427387904) : okN (n : Int) = true := by
  unfold okN
  rw [decide_eq_true (show (0 : Int) ≤ (n : Int) by omega), decide_eq_true (show (n : Int) ≤ 4611686018427387904 by omega)]; rfl
theorem okN_not {n : Int} (h : n < 0 ∨ 4611686018427387904 < n) : okN n = false := by
  cases hh : okN n with
  | false => rfl
  | true => obtain ⟨k, rfl, hk⟩ := okN_nat hh; omega
theorem guard3 {a b c : Bool} (h : (bif a then true else bif b then true else c) = false) : a = false ∧ b = false ∧ c = false := by
  cases a <;> cases b <;> cases c <;> simp at h ⊢
theorem LeL_self (xs : List AV) : LeL xs xs = True := eq_true (LeL.refl xs)
theorem LeH_self (xs : Heap) : LeH xs xs = True := eq_true (LeH.refl xs)
theorem cl_true : cl True = true := cl_iff.2 trivial
theorem allBytesF (n : Nat) (t : ByteArray) : (allBytes n fun j => [AV.v (Value.int IntKind.u8 (sbyte t j))]) = true := allBytes_bsF n t
theorem textOfF (t : ByteArray) : (textOf t.size fun j => [AV.v (Value.int IntKind.u8 (sbyte t j))]) = t := textOf_bsF t
theorem textOfF2 (a b : ByteArray) : (textOf (a.size + b.size) fun j => [AV.v (Value.int IntKind.u8 (sbyte (a ++ b) j))]) = a ++ b := by
  have := textOfF (a ++ b)
  rwa [ByteArray.size_append] at this
theorem textOfF3 (a b c : ByteArray) : (textOf (a.size + (b.size + c.size)) fun j => [AV.v (Value.int IntKind.u8 (sbyte (a ++ (b ++ c)) j))]) = a ++ (b ++ c) := by
  have := textOfF (a ++ (b ++ c))
  rwa [ByteArray.size_append, ByteArray.size_append] at this
end Go.Eng.SB

namespace Go.Eng.SB
open Go Go.Eng Go.Proofs
namespace S
noncomputable def c125 : CT Try.prog Γb := CT.auto false 100 3 [] 125 Try.f125 (bodyOf Try.f125) false 15 [.tmp 6] Try.func125 (by kernel_rfl) (by kernel_rfl) (by kernel_rfl) (by kernel_rfl)
noncomputable def c128 : CT Try.prog Γb := CT.auto false 100 3 [] 128 Try.f128 (bodyOf Try.f128) false 15 [.tmp 4] Try.func128 (by kernel_rfl) (by kernel_rfl) (by kernel_rfl) (by kernel_rfl)
noncomputable def c100 : CT Try.prog Γb := CT.auto false 100 3 [c128] 100 Try.f100 (bodyOf Try.f100) false 5 [.tmp 2] Try.func100 (by kernel_rfl) (by kernel_rfl) (by kernel_rfl) (by kernel_rfl)
noncomputable def c154 : CT Try.prog Γb := CT.auto false 100 3 [c100] 154 Try.f154 (bodyOf Try.f154) false 7 [.tmp 2] Try.func154 (by kernel_rfl) (by kernel_rfl) (by kernel_rfl) (by kernel_rfl)
noncomputable def c146 : CT Try.prog Γb := CT.auto false 100 3 [c100, c154] 146 Try.f146 (bodyOf Try.f146) false 15 [.tmp 4] Try.func146 (by kernel_rfl) (by kernel_rfl) (by kernel_rfl) (by kernel_rfl)
noncomputable def c147 : CT Try.prog Γb := CT.auto false 100 3 [] 147 Try.f147 (bodyOf Try.f147) false 6 [.tmp 2] Try.func147 (by kernel_rfl) (by kernel_rfl) (by kernel_rfl) (by kernel_rfl)
end S
def i6u2 : List Cel := [.int .i64, .int .i64, .int .i64, .int .i64, .int .i64, .int .i64, .int .u32, .int .u32]
def setOk (s : Int) : Bool := decide (bitI .andNot .u32 s 1023 = 0)
def g21 : List KC → AV
  | [.i s] => .sb (setOk s)
  | _ => .any
theorem run21 (s : Int) : bodyE (P := Try.prog) (Γ := Γb) [S.c146] Lno false 6 [.tmp 2] (bodyOf Try.f126) [.v (.int .u32 s)] [] =
  Tree.chk true
  (Tree.leaf
    {
      val :=
        AV.sb
          (bif false then false
          else
            bif
                !decide
                    (bitI BinOp.andNot IntKind.u32 s
                        (IntKind.u32.wrap
                          (IntKind.u32.wrap
                              ((1 : Int) *
                                (2 : Int) ^
                                  min
                                    (bif false then (0 : Int)
                                      else
                                        IntKind.i64.wrap (IntKind.i64.wrap ((3 : Int) * (3 : Int)) + (1 : Int))).toNat
                                    (32 : Nat)) -
                            (1 : Int))) =
                      (0 : Int)) then
              false
            else true),
      H := [] }) := by kernel_rfl
theorem gives21 (s : Int) : Gives (bodyE (P := Try.prog) (Γ := Γb) [S.c146] Lno false 6 [.tmp 2] (bodyOf Try.f126) [.v (.int .u32 s)] []) (.sb (setOk s)) := by
  refine Gives.of (run21 s) ?_
  simp only [Tree.sat_chk, Tree.sat_leaf, LeH_nil, and_true, le_sbsb]
  refine ⟨trivial, ?_⟩
  have e : (IntKind.u32.wrap (IntKind.u32.wrap ((1 : Int) * (2 : Int) ^ min (bif false then (0 : Int) else IntKind.i64.wrap (IntKind.i64.wrap ((3 : Int) * (3 : Int)) + (1 : Int))).toNat (32 : Nat)) - (1 : Int))) = 1023 := by kernel_rfl
  rw [e]
  unfold setOk
  cases decide (bitI BinOp.andNot IntKind.u32 s 1023 = 0) <;> rfl
theorem fit1 {c : Cel} {l : List KC} (h : kFit [c] l = true) : ∃ x, l = [x] ∧ kcFit c x = true := by
  match l, h with
  | [x], h => simp only [kFit, Bool.and_true] at h; exact ⟨x, rfl, h⟩
  | [], h => simp [kFit] at h
  | _ :: _ :: _, h => simp [kFit] at h
noncomputable def Z.c126 : CT Try.prog Γb := CT.fun 126 Try.f126 (bodyOf Try.f126) [S.c146] Lno false 6 [.tmp 2] [.c (.int .u32)] (fun _ => true) g21 Try.func126 (by kernel_rfl) (by kernel_rfl) (by kernel_rfl) (by kernel_rfl) (by decide) (noLoops (by kernel_rfl))
  (fun l h _ => by
    obtain ⟨x, rfl, hx⟩ := fit1 h
    cases x <;> simp [kcFit] at hx
    exact gives21 _)
theorem run7 (k b v r h a s c : Int) : bodyE (P := Try.prog) (Γ := Γb) [S.c125, Z.c126] Lno false 72 [.tmp 2] (bodyOf Try.f93) [.agg [.v (.int .i64 k), .v (.int .i64 b), .v (.int .i64 v), .v (.int .i64 r), .v (.int .i64 h), .v (.int .i64 a), .v (.int .u32 s), .v (.int .u32 c)]] [] =
  Tree.chk
  (bif bif decide ((1 : Int) ≤ b) then decide (b ≤ (2147483647 : Int)) else false then
    bif bif decide ((1 : Int) ≤ v) then decide (v ≤ (1048576 : Int)) else false then
      bif bif decide ((1 : Int) ≤ r) then decide (r ≤ (1073741824 : Int)) else false then
        bif !decide (s = (0 : Int)) then true else true
      else true
    else true
  else true)
  (Tree.br (decide (k = (0 : Int)))
    (Tree.br
      (!(decide (k = (0 : Int)) &&
          (decide (b = (0 : Int)) &&
            (decide (v = (0 : Int)) &&
              (decide (r = (0 : Int)) &&
                (decide (h = (0 : Int)) &&
                  (decide (a = (0 : Int)) && (decide (s = (0 : Int)) && decide (c = (0 : Int))))))))))
      (Tree.leaf { val := AV.v (Value.int IntKind.i64 (110 : Int)), H := [] })
      (Tree.leaf { val := AV.v (Value.int IntKind.i64 (0 : Int)), H := [] }))
    (Tree.br (decide (k = (1 : Int)))
      (Tree.br
        (!bif
              bif bif decide ((1 : Int) ≤ b) then decide (b ≤ (2147483647 : Int)) else false then
                bif bif decide ((1 : Int) ≤ v) then decide (v ≤ (1048576 : Int)) else false then
                  bif bif decide ((1 : Int) ≤ r) then decide (r ≤ (1073741824 : Int)) else false then
                    bif !decide (s = (0 : Int)) then setOk s else false
                  else false
                else false
              else false then
            bif decide (h = (0 : Int)) then bif decide (a = (0 : Int)) then decide (c = (0 : Int)) else false else false
          else false)
        (Tree.leaf { val := AV.v (Value.int IntKind.i64 (110 : Int)), H := [] })
        (Tree.leaf { val := AV.v (Value.int IntKind.i64 (0 : Int)), H := [] }))
      (Tree.br (decide (k = (2 : Int)))
        (Tree.chk
          (bif
              bif bif decide ((1 : Int) ≤ b) then decide (b ≤ (2147483647 : Int)) else false then
                bif bif decide ((1 : Int) ≤ v) then decide (v ≤ (1048576 : Int)) else false then
                  bif bif decide ((1 : Int) ≤ r) then decide (r ≤ (1073741824 : Int)) else false then
                    bif !decide (s = (0 : Int)) then setOk s else false
                  else false
                else false
              else false then
            bif bif decide ((1 : Int) ≤ h) then decide (h ≤ (3 : Int)) else false then
              bif bif decide ((0 : Int) ≤ a) then decide (a ≤ (9 : Int)) else false then true else true
            else true
          else true)
          (Tree.br
            (!bif
                  bif bif decide ((1 : Int) ≤ b) then decide (b ≤ (2147483647 : Int)) else false then
                    bif bif decide ((1 : Int) ≤ v) then decide (v ≤ (1048576 : Int)) else false then
                      bif bif decide ((1 : Int) ≤ r) then decide (r ≤ (1073741824 : Int)) else false then
                        bif !decide (s = (0 : Int)) then setOk s else false
                      else false
                    else false
                  else false then
                bif bif decide ((1 : Int) ≤ h) then decide (h ≤ (3 : Int)) else false then
                  bif bif decide ((0 : Int) ≤ a) then decide (a ≤ (9 : Int)) else false then setOk c else false
                else false
              else false)
            (Tree.leaf { val := AV.v (Value.int IntKind.i64 (110 : Int)), H := [] })
            (Tree.leaf { val := AV.v (Value.int IntKind.i64 (0 : Int)), H := [] })))
        (Tree.leaf { val := AV.v (Value.int IntKind.i64 (110 : Int)), H := [] })))) := by kernel_rfl
theorem run22 (k b v r h a s c : Int) : bodyE (P := Try.prog) (Γ := Γb) [] Lno false 13 [.cell 2 165] (bodyOf Try.f98) [.agg [.v (.int .i64 k), .v (.int .i64 b), .v (.int .i64 v), .v (.int .i64 r), .v (.int .i64 h), .v (.int .i64 a), .v (.int .u32 s), .v (.int .u32 c)]] [] =
  Tree.br (decide (k = (2 : Int)))
  (Tree.leaf
    {
      val :=
        AV.agg
          [AV.v (Value.int IntKind.i64 (bif true then v else bif false then (1 : Int) else bif false then r else v)),
            AV.v (Value.int IntKind.i64 (bif false then v else bif true then (1 : Int) else bif false then r else v)),
            AV.v (Value.int IntKind.i64 (bif false then v else bif false then (1 : Int) else bif true then r else v))],
      H := [] })
  (Tree.leaf
    {
      val :=
        AV.agg
          [AV.v (Value.int IntKind.i64 (bif true then v else bif false then (0 : Int) else bif false then r else v)),
            AV.v (Value.int IntKind.i64 (bif false then v else bif true then (0 : Int) else bif false then r else v)),
            AV.v (Value.int IntKind.i64 (bif false then v else bif false then (0 : Int) else bif true then r else v))],
      H := [] }) := by kernel_rfl

def cmpI (a b : Int) : Int := if a < b then -1 else if b < a then 1 else 0
theorem run33 (a b : Int) : bodyE (P := Try.prog) (Γ := Γb) [S.c147] Lno false 20 [.tmp 4] (bodyOf Try.f127) [.v (.int .i64 a), .v (.int .i64 b)] [] =
  Tree.br (!decide (a = a))
  (Tree.br (!decide (b = b)) (Tree.leaf { val := AV.v (Value.int IntKind.i64 (0 : Int)), H := [] })
    (Tree.leaf { val := AV.v (Value.int IntKind.i64 (-1 : Int)), H := [] }))
  (Tree.br (!decide (b = b)) (Tree.leaf { val := AV.v (Value.int IntKind.i64 (1 : Int)), H := [] })
    (Tree.br (decide (a < b)) (Tree.leaf { val := AV.v (Value.int IntKind.i64 (-1 : Int)), H := [] })
      (Tree.br (decide (b < a)) (Tree.leaf { val := AV.v (Value.int IntKind.i64 (1 : Int)), H := [] })
        (Tree.leaf { val := AV.v (Value.int IntKind.i64 (0 : Int)), H := [] })))) := by kernel_rfl
theorem gives33 (a b : Int) : Gives (bodyE (P := Try.prog) (Γ := Γb) [S.c147] Lno false 20 [.tmp 4] (bodyOf Try.f127) [.v (.int .i64 a), .v (.int .i64 b)] []) (.v (.int .i64 (cmpI a b))) := by
  refine Gives.of (run33 a b) ?_
  unfold cmpI
  by_cases h1 : a < b
  · simp [Tree.sat, h1, le_int]
  · by_cases h2 : b < a <;> simp [Tree.sat, h1, h2, le_int]
noncomputable def Z.c127 : CT Try.prog Γb := CT.val2 127 Try.f127 (bodyOf Try.f127) [S.c147] Lno false 20 [.tmp 4] .i64 .i64 (fun _ _ => true) (fun a b => .v (.int .i64 (cmpI a b))) Try.func127 (by kernel_rfl) (by kernel_rfl) (by kernel_rfl) (by kernel_rfl) (by decide) (noLoops (by kernel_rfl)) (fun a b _ => gives33 a b)
noncomputable def Z.c99 : CT Try.prog Γb := CT.auto false 4 1 [Z.c127] 99 Try.f99 (bodyOf Try.f99) false 36 [.tmp 4] Try.func99 (by kernel_rfl) (by kernel_rfl) (by kernel_rfl) (by kernel_rfl)
structure Ct where
  k : Int
  b : Int
  v : Int
  r : Int
  h : Int
  a : Int
  s : Int
  c : Int
def Ct.av (x : Ct) : AV := .agg [.v (.int .i64 x.k), .v (.int .i64 x.b), .v (.int .i64 x.v), .v (.int .i64 x.r), .v (.int .i64 x.h), .v (.int .i64 x.a), .v (.int .u32 x.s), .v (.int .u32 x.c)]
theorem fitCt {l : List KC} (h : kFit i6u2 l = true) : ∃ x : Ct, l = [.i x.k, .i x.b, .i x.v, .i x.r, .i x.h, .i x.a, .i x.s, .i x.c] := by
  unfold i6u2 at h
  match l, h with
  | [.i k, .i b, .i v, .i r, .i h, .i a, .i s, .i c], _ => exact ⟨⟨k, b, v, r, h, a, s, c⟩, rfl⟩
theorem fitCt2 {l : List KC} (h : kFit (i6u2 ++ i6u2) l = true) : ∃ x y : Ct, l = [.i x.k, .i x.b, .i x.v, .i x.r, .i x.h, .i x.a, .i x.s, .i x.c, .i y.k, .i y.b, .i y.v, .i y.r, .i y.h, .i y.a, .i y.s, .i y.c] := by
  unfold i6u2 at h
  match l, h with
  | [.i k, .i b, .i v, .i r, .i h, .i a, .i s, .i c, .i k', .i b', .i v', .i r', .i h', .i a', .i s', .i c'], _ => exact ⟨⟨k, b, v, r, h, a, s, c⟩, ⟨k', b', v', r', h', a', s', c'⟩, rfl⟩
def g22 : List KC → AV
  | [.i k, .i _, .i v, .i r, .i _, .i _, .i _, .i _] => .agg [.v (.int .i64 v), .v (.int .i64 (bif decide (k = 2) then 1 else 0)), .v (.int .i64 r)]
  | _ => .any
theorem gives22 (x : Ct) : Gives (bodyE (P := Try.prog) (Γ := Γb) [] Lno false 13 [.cell 2 165] (bodyOf Try.f98) [x.av] []) (.agg [.v (.int .i64 x.v), .v (.int .i64 (bif decide (x.k = 2) then 1 else 0)), .v (.int .i64 x.r)]) := by
  refine Gives.of (run22 x.k x.b x.v x.r x.h x.a x.s x.c) ?_
  by_cases h : x.k = 2
  · rw [decide_eq_true h]; exact ⟨fun _ => ⟨.refl _, trivial⟩, fun h => by simp at h⟩
  · rw [decide_eq_false h]; exact ⟨fun h => by simp at h, fun _ => ⟨.refl _, trivial⟩⟩
noncomputable def Z.c98 : CT Try.prog Γb := CT.fun 98 Try.f98 (bodyOf Try.f98) [] Lno false 13 [.cell 2 165] [.a i6u2] (fun _ => true) g22 Try.func98 (by kernel_rfl) (by kernel_rfl) (by kernel_rfl) (by kernel_rfl) (by decide) (noLoops (by kernel_rfl))
  (fun l h _ => by
    obtain ⟨x, rfl⟩ := fitCt h
    exact gives22 x)
def Ct.wf (x : Ct) : Bool := decide (1 ≤ x.b) && decide (x.b ≤ 2147483647) && decide (1 ≤ x.v) && decide (x.v ≤ 1048576) && decide (1 ≤ x.r) && decide (x.r ≤ 1073741824) && !decide (x.s = 0) && setOk x.s
def Ct.ok (x : Ct) : Bool := bif decide (x.k = 0) then decide (x.b = 0) && decide (x.v = 0) && decide (x.r = 0) && decide (x.h = 0) && decide (x.a = 0) && decide (x.s = 0) && decide (x.c = 0)
  else bif decide (x.k = 1) then x.wf && decide (x.h = 0) && decide (x.a = 0) && decide (x.c = 0)
  else bif decide (x.k = 2) then x.wf && decide (1 ≤ x.h) && decide (x.h ≤ 3) && decide (0 ≤ x.a) && decide (x.a ≤ 9) && setOk x.c else false
def g7 : List KC → AV
  | [.i k, .i b, .i v, .i r, .i h, .i a, .i s, .i c] => .v (.int .i64 (bif Ct.ok ⟨k, b, v, r, h, a, s, c⟩ then 0 else 110))
  | _ => .any
theorem gives7 (x : Ct) : Gives (bodyE (P := Try.prog) (Γ := Γb) [S.c125, Z.c126] Lno false 72 [.tmp 2] (bodyOf Try.f93) [x.av] []) (.v (.int .i64 (bif x.ok then 0 else 110))) := by
  refine Gives.of (run7 x.k x.b x.v x.r x.h x.a x.s x.c) ?_
  obtain ⟨k, b, v, r, h, a, s, c⟩ := x
  simp only [Ct.ok, Ct.wf]
  generalize setOk s = S
  generalize setOk c = C
  by_cases k0 : k = 0
  · subst k0
    simp only [decide_true, Tree.sat_chk, Tree.sat_br, Tree.sat_leaf, le_int, LeH_nil, and_true, true_and, cond_true]
    refine ⟨by grind, ?_⟩
    grind
  · by_cases k1 : k = 1
    · subst k1
      simp only [decide_true, Tree.sat_chk, Tree.sat_br, Tree.sat_leaf, le_int, LeH_nil, and_true, true_and, cond_true]
      grind
    · by_cases k2 : k = 2
      · subst k2
        simp only [decide_true, Tree.sat_chk, Tree.sat_br, Tree.sat_leaf, le_int, LeH_nil, and_true, true_and, cond_true]
        grind
      · rw [decide_eq_false k0, decide_eq_false k1, decide_eq_false k2]
        simp only [Tree.sat_chk, Tree.sat_br, Tree.sat_leaf, le_int, LeH_nil, and_true, true_and, cond_true, cond_false]
        grind
noncomputable def Z.c93 : CT Try.prog Γb := CT.fun 93 Try.f93 (bodyOf Try.f93) [S.c125, Z.c126] Lno false 72 [.tmp 2] [.a i6u2] (fun _ => true) g7 Try.func93 (by kernel_rfl) (by kernel_rfl) (by kernel_rfl) (by kernel_rfl) (by decide) (noLoops (by kernel_rfl))
  (fun l h _ => by
    obtain ⟨x, rfl⟩ := fitCt h
    exact gives7 x)
end Go.Eng.SB

namespace Go.Eng.SB
open Go Go.Eng Go.Proofs
def Ct.cls (x : Ct) : Int := bif decide (x.k = 2) then 1 else 0
def Ct.cmp (x y : Ct) : Int := bif decide (cmpI x.v y.v = 0) then (bif decide (cmpI x.cls y.cls = 0) then cmpI x.r y.r else cmpI x.cls y.cls) else cmpI x.v y.v
def g10 : List KC → AV
  | [.i k, .i b, .i v, .i r, .i h, .i a, .i s, .i c, .i k', .i b', .i v', .i r', .i h', .i a', .i s', .i c'] => .v (.int .i64 (Ct.cmp ⟨k, b, v, r, h, a, s, c⟩ ⟨k', b', v', r', h', a', s', c'⟩))
  | _ => .any
theorem run10 (x y : Ct) : bodyE (P := Try.prog) (Γ := Γb) [Z.c98, Z.c99] Lno false 14 [.tmp 4] (bodyOf Try.f45) [x.av, y.av] [] =
  Tree.chk true (Tree.chk true (Tree.chk true (Tree.chk true (Tree.br true (Tree.chk true (Tree.br false (Tree.leaf (Ans.mk (AV.v (Value.int IntKind.i64 (1 : Int))) [])) (Tree.chk true
    (Tree.chk true (Tree.br (!decide (cmpI x.v y.v = (0 : Int))) (Tree.leaf (Ans.mk (AV.v (Value.int IntKind.i64 (cmpI x.v y.v))) [])) (Tree.br true (Tree.chk true (Tree.br false (Tree.leaf
    (Ans.mk (AV.v (Value.int IntKind.i64 (1 : Int))) [])) (Tree.chk true (Tree.chk true (Tree.br (!decide (cmpI (bif decide (x.k = (2 : Int)) then (1 : Int) else (0 : Int)) (bif decide (y.k
    = (2 : Int)) then (1 : Int) else (0 : Int)) = (0 : Int))) (Tree.leaf (Ans.mk (AV.v (Value.int IntKind.i64 (cmpI (bif decide (x.k = (2 : Int)) then (1 : Int) else (0 : Int)) (bif decide
    (y.k = (2 : Int)) then (1 : Int) else (0 : Int))))) [])) (Tree.br true (Tree.chk true (Tree.br false (Tree.leaf (Ans.mk (AV.v (Value.int IntKind.i64 (1 : Int))) [])) (Tree.chk true
    (Tree.chk true (Tree.br (!decide (cmpI x.r y.r = (0 : Int))) (Tree.leaf (Ans.mk (AV.v (Value.int IntKind.i64 (cmpI x.r y.r))) [])) (Tree.br false (Tree.chk false (Tree.br true (Tree.leaf
    (Ans.mk (AV.v (Value.int IntKind.i64 (1 : Int))) [])) (Tree.chk false (Tree.chk true (Tree.br (!decide (cmpI x.v y.v = (0 : Int))) (Tree.leaf (Ans.mk (AV.v (Value.int IntKind.i64 (cmpI
    x.v y.v))) [])) Tree.fail))))) (Tree.br false (Tree.leaf (Ans.mk (AV.v (Value.int IntKind.i64 (-1 : Int))) [])) (Tree.leaf (Ans.mk (AV.v (Value.int IntKind.i64 (0 : Int))) [])))))))))
    (Tree.br false (Tree.leaf (Ans.mk (AV.v (Value.int IntKind.i64 (-1 : Int))) [])) (Tree.leaf (Ans.mk (AV.v (Value.int IntKind.i64 (0 : Int))) []))))))))) (Tree.br false (Tree.leaf (Ans.mk
    (AV.v (Value.int IntKind.i64 (-1 : Int))) [])) (Tree.leaf (Ans.mk (AV.v (Value.int IntKind.i64 (0 : Int))) []))))))))) (Tree.br false (Tree.leaf (Ans.mk (AV.v (Value.int IntKind.i64 (-1
    : Int))) [])) (Tree.leaf (Ans.mk (AV.v (Value.int IntKind.i64 (0 : Int))) []))))))) := by kernel_rfl
theorem gives10 (x y : Ct) : Gives (bodyE (P := Try.prog) (Γ := Γb) [Z.c98, Z.c99] Lno false 14 [.tmp 4] (bodyOf Try.f45) [x.av, y.av] []) (.v (.int .i64 (x.cmp y))) := by
  refine Gives.of (run10 x y) ?_
  simp only [Ct.cmp, Ct.cls, cond_true, cond_false, Tree.sat_chk, Tree.sat_br, Tree.sat_leaf, le_int, LeH_nil, and_true, true_and]
  grind
noncomputable def Z.c45 : CT Try.prog Γb := CT.fun 45 Try.f45 (bodyOf Try.f45) [Z.c98, Z.c99] Lno false 14 [.tmp 4] [.a i6u2, .a i6u2] (fun _ => true) g10 Try.func45 (by kernel_rfl) (by kernel_rfl) (by kernel_rfl) (by kernel_rfl) (by decide) (noLoops (by kernel_rfl))
  (fun l h _ => by
    obtain ⟨x, y, rfl⟩ := fitCt2 h
    exact gives10 x y)
end Go.Eng.SB

namespace Go.Eng.SB
open Go Go.Eng Go.Proofs
def gC (x : Ct) : Nat → Int
  | 0 => x.k
  | 1 => x.b
  | 2 => x.v
  | 3 => x.r
  | 4 => x.s
  | 5 => x.h
  | 6 => x.a
  | _ => x.c
theorem ansNumsH (m : Nat) (g : Nat → Int) (h : (NA.hs (m + 1) g).ok) : Answers Try.prog Γb 82 [.hs 0 0 (m + 1)] [.arr 1 (m + 1) (i64F g)] (.tup [.hs 1 0 (catN g (m + 1)).size, .v (.int .i64 0)]) [some (.arr 1 (m + 1) (i64F g))] [.arr 1 (catN g (m + 1)).size (bsF (catN g (m + 1)))] := ansNums (.hs (m + 1) g) h
theorem runB0 (x : Ct) (hl : (NA.hs (0 + 1) (gC x)).ok) : bodyE (P := Try.prog) (Γ := Γb) [Z.c93, CT.at 82 (ansNumsH 0 (gC x) hl)] Lno false 46 [.tmp 2, .tmp 3] (bodyOf Try.f41) [x.av] [] =
  Tree.chk true (Tree.br (!decide ((bif Ct.ok (Ct.mk x.k x.b x.v x.r x.h x.a x.s x.c) then (0 : Int) else (110 : Int)) = (0 : Int))) (Tree.leaf (Ans.mk (AV.tup [AV.v (Value.slice none (0 :
    Nat) (0 : Nat)), AV.v (Value.int IntKind.i64 (bif Ct.ok (Ct.mk x.k x.b x.v x.r x.h x.a x.s x.c) then (0 : Int) else (110 : Int)))]) [])) (Tree.br (!decide (x.k = (0 : Int))) (Tree.chk
    true (Tree.br (decide (x.k = (2 : Int))) (Tree.chk true (Tree.chk (cl (LeL [AV.hs (0 : Nat) (0 : Nat) (8 : Nat)] [AV.hs (0 : Nat) (0 : Nat) (1 : Nat)] ∧ LeH [some (Blk.arr (1 : Nat) (8 :
    Nat) fun j => mixL (decide (j < (5 : Nat))) (mixL (decide ((0 : Nat) + j < (1 : Nat))) (chain [AV.v (Value.int IntKind.i64 (0 : Int))] (0 : Nat) [[AV.v (Value.int IntKind.i64 x.k)]] ((0
    : Nat) + ((0 : Nat) + j))) (chain [AV.v (Value.int IntKind.i64 (0 : Int))] (0 : Nat) [[AV.v (Value.int IntKind.i64 x.b)], [AV.v (Value.int IntKind.i64 x.v)], [AV.v (Value.int IntKind.i64
    x.r)], [AV.v (Value.int IntKind.i64 (IntKind.wrap IntKind.i64 x.s))]] ((0 : Nat) + ((0 : Nat) + j - (1 : Nat))))) (chain [AV.v (Value.int IntKind.i64 (0 : Int))] (0 : Nat) [[AV.v
    (Value.int IntKind.i64 x.h)], [AV.v (Value.int IntKind.i64 x.a)], [AV.v (Value.int IntKind.i64 (IntKind.wrap IntKind.i64 x.c))]] ((0 : Nat) + (j - (5 : Nat)))))] [some (Blk.arr (1 : Nat)
    (1 : Nat) fun j => [AV.v (Value.int IntKind.i64 (gC x j))])])) (Tree.leaf (Ans.mk (AV.tup [AV.hs (0 : Nat) (0 : Nat) (ByteArray.size (catN (gC x) (1 : Nat))), AV.v (Value.int IntKind.i64
    (0 : Int))]) [some (Blk.arr (1 : Nat) (ByteArray.size (catN (gC x) (1 : Nat))) fun j => [AV.v (Value.int IntKind.u8 (sbyte (catN (gC x) (1 : Nat)) j))])])))) (Tree.chk (cl (LeL [AV.hs (0
    : Nat) (0 : Nat) (5 : Nat)] [AV.hs (0 : Nat) (0 : Nat) (1 : Nat)] ∧ LeH [some (Blk.arr (1 : Nat) (5 : Nat) fun j => mixL (decide (j < (1 : Nat))) (chain [AV.v (Value.int IntKind.i64 (0 :
    Int))] (0 : Nat) [[AV.v (Value.int IntKind.i64 x.k)]] ((0 : Nat) + j)) (chain [AV.v (Value.int IntKind.i64 (0 : Int))] (0 : Nat) [[AV.v (Value.int IntKind.i64 x.b)], [AV.v (Value.int
    IntKind.i64 x.v)], [AV.v (Value.int IntKind.i64 x.r)], [AV.v (Value.int IntKind.i64 (IntKind.wrap IntKind.i64 x.s))]] ((0 : Nat) + (j - (1 : Nat)))))] [some (Blk.arr (1 : Nat) (1 : Nat)
    fun j => [AV.v (Value.int IntKind.i64 (gC x j))])])) (Tree.leaf (Ans.mk (AV.tup [AV.hs (0 : Nat) (0 : Nat) (ByteArray.size (catN (gC x) (1 : Nat))), AV.v (Value.int IntKind.i64 (0 :
    Int))]) [some (Blk.arr (1 : Nat) (ByteArray.size (catN (gC x) (1 : Nat))) fun j => [AV.v (Value.int IntKind.u8 (sbyte (catN (gC x) (1 : Nat)) j))])]))))) (Tree.br (decide (x.k = (2 :
    Int))) (Tree.chk true (Tree.chk (cl (LeL [AV.hs (0 : Nat) (0 : Nat) (4 : Nat)] [AV.hs (0 : Nat) (0 : Nat) (1 : Nat)] ∧ LeH [some (Blk.arr (1 : Nat) (4 : Nat) fun j => mixL (decide (j <
    (1 : Nat))) (chain [AV.v (Value.int IntKind.i64 (0 : Int))] (0 : Nat) [[AV.v (Value.int IntKind.i64 x.k)]] ((0 : Nat) + j)) (chain [AV.v (Value.int IntKind.i64 (0 : Int))] (0 : Nat)
    [[AV.v (Value.int IntKind.i64 x.h)], [AV.v (Value.int IntKind.i64 x.a)], [AV.v (Value.int IntKind.i64 (IntKind.wrap IntKind.i64 x.c))]] ((0 : Nat) + (j - (1 : Nat)))))] [some (Blk.arr (1
    : Nat) (1 : Nat) fun j => [AV.v (Value.int IntKind.i64 (gC x j))])])) (Tree.leaf (Ans.mk (AV.tup [AV.hs (0 : Nat) (0 : Nat) (ByteArray.size (catN (gC x) (1 : Nat))), AV.v (Value.int
    IntKind.i64 (0 : Int))]) [some (Blk.arr (1 : Nat) (ByteArray.size (catN (gC x) (1 : Nat))) fun j => [AV.v (Value.int IntKind.u8 (sbyte (catN (gC x) (1 : Nat)) j))])])))) (Tree.chk (cl
    (LeL [AV.hs (0 : Nat) (0 : Nat) (1 : Nat)] [AV.hs (0 : Nat) (0 : Nat) (1 : Nat)] ∧ LeH [some (Blk.arr (1 : Nat) (1 : Nat) fun x_1 => [AV.v (Value.int IntKind.i64 (bif Nat.beq x_1 (0 :
    Nat) then x.k else (0 : Int)))])] [some (Blk.arr (1 : Nat) (1 : Nat) fun j => [AV.v (Value.int IntKind.i64 (gC x j))])])) (Tree.leaf (Ans.mk (AV.tup [AV.hs (0 : Nat) (0 : Nat)
    (ByteArray.size (catN (gC x) (1 : Nat))), AV.v (Value.int IntKind.i64 (0 : Int))]) [some (Blk.arr (1 : Nat) (ByteArray.size (catN (gC x) (1 : Nat))) fun j => [AV.v (Value.int IntKind.u8
    (sbyte (catN (gC x) (1 : Nat)) j))])])))))) := by kernel_rfl
theorem runB4 (x : Ct) (hl : (NA.hs (4 + 1) (gC x)).ok) : bodyE (P := Try.prog) (Γ := Γb) [Z.c93, CT.at 82 (ansNumsH 4 (gC x) hl)] Lno false 46 [.tmp 2, .tmp 3] (bodyOf Try.f41) [x.av] [] =
  Tree.chk true (Tree.br (!decide ((bif Ct.ok (Ct.mk x.k x.b x.v x.r x.h x.a x.s x.c) then (0 : Int) else (110 : Int)) = (0 : Int))) (Tree.leaf (Ans.mk (AV.tup [AV.v (Value.slice none (0 :
    Nat) (0 : Nat)), AV.v (Value.int IntKind.i64 (bif Ct.ok (Ct.mk x.k x.b x.v x.r x.h x.a x.s x.c) then (0 : Int) else (110 : Int)))]) [])) (Tree.br (!decide (x.k = (0 : Int))) (Tree.chk
    true (Tree.br (decide (x.k = (2 : Int))) (Tree.chk true (Tree.chk (cl (LeL [AV.hs (0 : Nat) (0 : Nat) (8 : Nat)] [AV.hs (0 : Nat) (0 : Nat) (5 : Nat)] ∧ LeH [some (Blk.arr (1 : Nat) (8 :
    Nat) fun j => mixL (decide (j < (5 : Nat))) (mixL (decide ((0 : Nat) + j < (1 : Nat))) (chain [AV.v (Value.int IntKind.i64 (0 : Int))] (0 : Nat) [[AV.v (Value.int IntKind.i64 x.k)]] ((0
    : Nat) + ((0 : Nat) + j))) (chain [AV.v (Value.int IntKind.i64 (0 : Int))] (0 : Nat) [[AV.v (Value.int IntKind.i64 x.b)], [AV.v (Value.int IntKind.i64 x.v)], [AV.v (Value.int IntKind.i64
    x.r)], [AV.v (Value.int IntKind.i64 (IntKind.wrap IntKind.i64 x.s))]] ((0 : Nat) + ((0 : Nat) + j - (1 : Nat))))) (chain [AV.v (Value.int IntKind.i64 (0 : Int))] (0 : Nat) [[AV.v
    (Value.int IntKind.i64 x.h)], [AV.v (Value.int IntKind.i64 x.a)], [AV.v (Value.int IntKind.i64 (IntKind.wrap IntKind.i64 x.c))]] ((0 : Nat) + (j - (5 : Nat)))))] [some (Blk.arr (1 : Nat)
    (5 : Nat) fun j => [AV.v (Value.int IntKind.i64 (gC x j))])])) (Tree.leaf (Ans.mk (AV.tup [AV.hs (0 : Nat) (0 : Nat) (ByteArray.size (catN (gC x) (5 : Nat))), AV.v (Value.int IntKind.i64
    (0 : Int))]) [some (Blk.arr (1 : Nat) (ByteArray.size (catN (gC x) (5 : Nat))) fun j => [AV.v (Value.int IntKind.u8 (sbyte (catN (gC x) (5 : Nat)) j))])])))) (Tree.chk (cl (LeL [AV.hs (0
    : Nat) (0 : Nat) (5 : Nat)] [AV.hs (0 : Nat) (0 : Nat) (5 : Nat)] ∧ LeH [some (Blk.arr (1 : Nat) (5 : Nat) fun j => mixL (decide (j < (1 : Nat))) (chain [AV.v (Value.int IntKind.i64 (0 :
    Int))] (0 : Nat) [[AV.v (Value.int IntKind.i64 x.k)]] ((0 : Nat) + j)) (chain [AV.v (Value.int IntKind.i64 (0 : Int))] (0 : Nat) [[AV.v (Value.int IntKind.i64 x.b)], [AV.v (Value.int
    IntKind.i64 x.v)], [AV.v (Value.int IntKind.i64 x.r)], [AV.v (Value.int IntKind.i64 (IntKind.wrap IntKind.i64 x.s))]] ((0 : Nat) + (j - (1 : Nat)))))] [some (Blk.arr (1 : Nat) (5 : Nat)
    fun j => [AV.v (Value.int IntKind.i64 (gC x j))])])) (Tree.leaf (Ans.mk (AV.tup [AV.hs (0 : Nat) (0 : Nat) (ByteArray.size (catN (gC x) (5 : Nat))), AV.v (Value.int IntKind.i64 (0 :
    Int))]) [some (Blk.arr (1 : Nat) (ByteArray.size (catN (gC x) (5 : Nat))) fun j => [AV.v (Value.int IntKind.u8 (sbyte (catN (gC x) (5 : Nat)) j))])]))))) (Tree.br (decide (x.k = (2 :
    Int))) (Tree.chk true (Tree.chk (cl (LeL [AV.hs (0 : Nat) (0 : Nat) (4 : Nat)] [AV.hs (0 : Nat) (0 : Nat) (5 : Nat)] ∧ LeH [some (Blk.arr (1 : Nat) (4 : Nat) fun j => mixL (decide (j <
    (1 : Nat))) (chain [AV.v (Value.int IntKind.i64 (0 : Int))] (0 : Nat) [[AV.v (Value.int IntKind.i64 x.k)]] ((0 : Nat) + j)) (chain [AV.v (Value.int IntKind.i64 (0 : Int))] (0 : Nat)
    [[AV.v (Value.int IntKind.i64 x.h)], [AV.v (Value.int IntKind.i64 x.a)], [AV.v (Value.int IntKind.i64 (IntKind.wrap IntKind.i64 x.c))]] ((0 : Nat) + (j - (1 : Nat)))))] [some (Blk.arr (1
    : Nat) (5 : Nat) fun j => [AV.v (Value.int IntKind.i64 (gC x j))])])) (Tree.leaf (Ans.mk (AV.tup [AV.hs (0 : Nat) (0 : Nat) (ByteArray.size (catN (gC x) (5 : Nat))), AV.v (Value.int
    IntKind.i64 (0 : Int))]) [some (Blk.arr (1 : Nat) (ByteArray.size (catN (gC x) (5 : Nat))) fun j => [AV.v (Value.int IntKind.u8 (sbyte (catN (gC x) (5 : Nat)) j))])])))) (Tree.chk (cl
    (LeL [AV.hs (0 : Nat) (0 : Nat) (1 : Nat)] [AV.hs (0 : Nat) (0 : Nat) (5 : Nat)] ∧ LeH [some (Blk.arr (1 : Nat) (1 : Nat) fun x_1 => [AV.v (Value.int IntKind.i64 (bif Nat.beq x_1 (0 :
    Nat) then x.k else (0 : Int)))])] [some (Blk.arr (1 : Nat) (5 : Nat) fun j => [AV.v (Value.int IntKind.i64 (gC x j))])])) (Tree.leaf (Ans.mk (AV.tup [AV.hs (0 : Nat) (0 : Nat)
    (ByteArray.size (catN (gC x) (5 : Nat))), AV.v (Value.int IntKind.i64 (0 : Int))]) [some (Blk.arr (1 : Nat) (ByteArray.size (catN (gC x) (5 : Nat))) fun j => [AV.v (Value.int IntKind.u8
    (sbyte (catN (gC x) (5 : Nat)) j))])])))))) := by kernel_rfl
theorem runB7 (x : Ct) (hl : (NA.hs (7 + 1) (gC x)).ok) : bodyE (P := Try.prog) (Γ := Γb) [Z.c93, CT.at 82 (ansNumsH 7 (gC x) hl)] Lno false 46 [.tmp 2, .tmp 3] (bodyOf Try.f41) [x.av] [] =
  Tree.chk true (Tree.br (!decide ((bif Ct.ok (Ct.mk x.k x.b x.v x.r x.h x.a x.s x.c) then (0 : Int) else (110 : Int)) = (0 : Int))) (Tree.leaf (Ans.mk (AV.tup [AV.v (Value.slice none (0 :
    Nat) (0 : Nat)), AV.v (Value.int IntKind.i64 (bif Ct.ok (Ct.mk x.k x.b x.v x.r x.h x.a x.s x.c) then (0 : Int) else (110 : Int)))]) [])) (Tree.br (!decide (x.k = (0 : Int))) (Tree.chk
    true (Tree.br (decide (x.k = (2 : Int))) (Tree.chk true (Tree.chk (cl (LeL [AV.hs (0 : Nat) (0 : Nat) (8 : Nat)] [AV.hs (0 : Nat) (0 : Nat) (8 : Nat)] ∧ LeH [some (Blk.arr (1 : Nat) (8 :
    Nat) fun j => mixL (decide (j < (5 : Nat))) (mixL (decide ((0 : Nat) + j < (1 : Nat))) (chain [AV.v (Value.int IntKind.i64 (0 : Int))] (0 : Nat) [[AV.v (Value.int IntKind.i64 x.k)]] ((0
    : Nat) + ((0 : Nat) + j))) (chain [AV.v (Value.int IntKind.i64 (0 : Int))] (0 : Nat) [[AV.v (Value.int IntKind.i64 x.b)], [AV.v (Value.int IntKind.i64 x.v)], [AV.v (Value.int IntKind.i64
    x.r)], [AV.v (Value.int IntKind.i64 (IntKind.wrap IntKind.i64 x.s))]] ((0 : Nat) + ((0 : Nat) + j - (1 : Nat))))) (chain [AV.v (Value.int IntKind.i64 (0 : Int))] (0 : Nat) [[AV.v
    (Value.int IntKind.i64 x.h)], [AV.v (Value.int IntKind.i64 x.a)], [AV.v (Value.int IntKind.i64 (IntKind.wrap IntKind.i64 x.c))]] ((0 : Nat) + (j - (5 : Nat)))))] [some (Blk.arr (1 : Nat)
    (8 : Nat) fun j => [AV.v (Value.int IntKind.i64 (gC x j))])])) (Tree.leaf (Ans.mk (AV.tup [AV.hs (0 : Nat) (0 : Nat) (ByteArray.size (catN (gC x) (8 : Nat))), AV.v (Value.int IntKind.i64
    (0 : Int))]) [some (Blk.arr (1 : Nat) (ByteArray.size (catN (gC x) (8 : Nat))) fun j => [AV.v (Value.int IntKind.u8 (sbyte (catN (gC x) (8 : Nat)) j))])])))) (Tree.chk (cl (LeL [AV.hs (0
    : Nat) (0 : Nat) (5 : Nat)] [AV.hs (0 : Nat) (0 : Nat) (8 : Nat)] ∧ LeH [some (Blk.arr (1 : Nat) (5 : Nat) fun j => mixL (decide (j < (1 : Nat))) (chain [AV.v (Value.int IntKind.i64 (0 :
    Int))] (0 : Nat) [[AV.v (Value.int IntKind.i64 x.k)]] ((0 : Nat) + j)) (chain [AV.v (Value.int IntKind.i64 (0 : Int))] (0 : Nat) [[AV.v (Value.int IntKind.i64 x.b)], [AV.v (Value.int
    IntKind.i64 x.v)], [AV.v (Value.int IntKind.i64 x.r)], [AV.v (Value.int IntKind.i64 (IntKind.wrap IntKind.i64 x.s))]] ((0 : Nat) + (j - (1 : Nat)))))] [some (Blk.arr (1 : Nat) (8 : Nat)
    fun j => [AV.v (Value.int IntKind.i64 (gC x j))])])) (Tree.leaf (Ans.mk (AV.tup [AV.hs (0 : Nat) (0 : Nat) (ByteArray.size (catN (gC x) (8 : Nat))), AV.v (Value.int IntKind.i64 (0 :
    Int))]) [some (Blk.arr (1 : Nat) (ByteArray.size (catN (gC x) (8 : Nat))) fun j => [AV.v (Value.int IntKind.u8 (sbyte (catN (gC x) (8 : Nat)) j))])]))))) (Tree.br (decide (x.k = (2 :
    Int))) (Tree.chk true (Tree.chk (cl (LeL [AV.hs (0 : Nat) (0 : Nat) (4 : Nat)] [AV.hs (0 : Nat) (0 : Nat) (8 : Nat)] ∧ LeH [some (Blk.arr (1 : Nat) (4 : Nat) fun j => mixL (decide (j <
    (1 : Nat))) (chain [AV.v (Value.int IntKind.i64 (0 : Int))] (0 : Nat) [[AV.v (Value.int IntKind.i64 x.k)]] ((0 : Nat) + j)) (chain [AV.v (Value.int IntKind.i64 (0 : Int))] (0 : Nat)
    [[AV.v (Value.int IntKind.i64 x.h)], [AV.v (Value.int IntKind.i64 x.a)], [AV.v (Value.int IntKind.i64 (IntKind.wrap IntKind.i64 x.c))]] ((0 : Nat) + (j - (1 : Nat)))))] [some (Blk.arr (1
    : Nat) (8 : Nat) fun j => [AV.v (Value.int IntKind.i64 (gC x j))])])) (Tree.leaf (Ans.mk (AV.tup [AV.hs (0 : Nat) (0 : Nat) (ByteArray.size (catN (gC x) (8 : Nat))), AV.v (Value.int
    IntKind.i64 (0 : Int))]) [some (Blk.arr (1 : Nat) (ByteArray.size (catN (gC x) (8 : Nat))) fun j => [AV.v (Value.int IntKind.u8 (sbyte (catN (gC x) (8 : Nat)) j))])])))) (Tree.chk (cl
    (LeL [AV.hs (0 : Nat) (0 : Nat) (1 : Nat)] [AV.hs (0 : Nat) (0 : Nat) (8 : Nat)] ∧ LeH [some (Blk.arr (1 : Nat) (1 : Nat) fun x_1 => [AV.v (Value.int IntKind.i64 (bif Nat.beq x_1 (0 :
    Nat) then x.k else (0 : Int)))])] [some (Blk.arr (1 : Nat) (8 : Nat) fun j => [AV.v (Value.int IntKind.i64 (gC x j))])])) (Tree.leaf (Ans.mk (AV.tup [AV.hs (0 : Nat) (0 : Nat)
    (ByteArray.size (catN (gC x) (8 : Nat))), AV.v (Value.int IntKind.i64 (0 : Int))]) [some (Blk.arr (1 : Nat) (ByteArray.size (catN (gC x) (8 : Nat))) fun j => [AV.v (Value.int IntKind.u8
    (sbyte (catN (gC x) (8 : Nat)) j))])])))))) := by kernel_rfl
theorem runBx (x : Ct) : bodyE (P := Try.prog) (Γ := Γb) [Z.c93] Lno false 46 [.tmp 2, .tmp 3] (bodyOf Try.f41) [x.av] [] =
  Tree.chk true (Tree.br (!decide ((bif Ct.ok (Ct.mk x.k x.b x.v x.r x.h x.a x.s x.c) then (0 : Int) else (110 : Int)) = (0 : Int))) (Tree.leaf (Ans.mk (AV.tup [AV.v (Value.slice none (0 :
    Nat) (0 : Nat)), AV.v (Value.int IntKind.i64 (bif Ct.ok (Ct.mk x.k x.b x.v x.r x.h x.a x.s x.c) then (0 : Int) else (110 : Int)))]) [])) (Tree.br (!decide (x.k = (0 : Int))) (Tree.chk
    true (Tree.br (decide (x.k = (2 : Int))) (Tree.chk true Tree.fail) Tree.fail)) (Tree.br (decide (x.k = (2 : Int))) (Tree.chk true Tree.fail) Tree.fail))) := by kernel_rfl
def Ct.wide (x : Ct) : Prop := 0 ≤ x.s ∧ x.s < 4294967296 ∧ 0 ≤ x.c ∧ x.c < 4294967296
theorem okN_le {n : Int} (h : 0 ≤ n) (h' : n ≤ 4611686018427387904) : okN n = true := by
  unfold okN; rw [decide_eq_true h, decide_eq_true h']; rfl
theorem ok_kinds {x : Ct} (h : x.ok = true) : x.k = 0 ∨ (x.k = 1 ∧ x.wf = true ∧ x.h = 0 ∧ x.a = 0 ∧ x.c = 0) ∨ (x.k = 2 ∧ x.wf = true ∧ 1 ≤ x.h ∧ x.h ≤ 3 ∧ 0 ≤ x.a ∧ x.a ≤ 9) := by
  unfold Ct.ok at h
  by_cases h0 : x.k = 0
  · exact .inl h0
  · rw [decide_eq_false h0] at h
    by_cases h1 : x.k = 1
    · rw [decide_eq_true h1] at h
      simp only [cond_true, cond_false, Bool.and_eq_true, decide_eq_true_eq] at h
      exact .inr (.inl ⟨h1, h.1.1.1, h.1.1.2, h.1.2, h.2⟩)
    · rw [decide_eq_false h1] at h
      by_cases h2 : x.k = 2
      · rw [decide_eq_true h2] at h
        simp only [cond_true, cond_false, Bool.and_eq_true, decide_eq_true_eq] at h
        exact .inr (.inr ⟨h2, h.1.1.1.1.1, h.1.1.1.1.2, h.1.1.1.2, h.1.1.2, h.1.2⟩)
      · rw [decide_eq_false h2] at h; simp at h
theorem wf_nums {x : Ct} (h : x.wf = true) : 1 ≤ x.b ∧ x.b ≤ 2147483647 ∧ 1 ≤ x.v ∧ x.v ≤ 1048576 ∧ 1 ≤ x.r ∧ x.r ≤ 1073741824 := by
  simp only [Ct.wf, Bool.and_eq_true, decide_eq_true_eq] at h
  exact ⟨h.1.1.1.1.1.1.1, h.1.1.1.1.1.1.2, h.1.1.1.1.1.2, h.1.1.1.1.2, h.1.1.1.2, h.1.1.2⟩
theorem na0 {x : Ct} (h : x.k = 0) : (NA.hs (0 + 1) (gC x)).ok := ⟨fun j hj => match j, hj with | 0, _ => okN_le (by show 0 ≤ x.k; omega) (by show x.k ≤ _; omega) | j + 1, h => absurd h (by show ¬ j + 1 < 0 + 1; omega), by show 0 + 1 ≤ 100000; omega, fun _ => by show 0 < 0 + 1; omega⟩
theorem na4 {x : Ct} (hx : x.wide) (h : x.k = 1) (hw : x.wf = true) : (NA.hs (4 + 1) (gC x)).ok := by
  obtain ⟨b1, b2, v1, v2, r1, r2⟩ := wf_nums hw
  obtain ⟨s1, s2, _, _⟩ := hx
  exact ⟨fun j hj => match j, hj with
    | 0, _ => okN_le (by show 0 ≤ x.k; omega) (by show x.k ≤ _; omega)
    | 1, _ => okN_le (by show 0 ≤ x.b; omega) (by show x.b ≤ _; omega)
    | 2, _ => okN_le (by show 0 ≤ x.v; omega) (by show x.v ≤ _; omega)
    | 3, _ => okN_le (by show 0 ≤ x.r; omega) (by show x.r ≤ _; omega)
    | 4, _ => okN_le (by show 0 ≤ x.s; omega) (by show x.s ≤ _; omega)
    | j + 5, h => absurd h (by show ¬ j + 5 < 4 + 1; omega), by show 4 + 1 ≤ 100000; omega, fun _ => by show 0 < 4 + 1; omega⟩
theorem na7 {x : Ct} (hx : x.wide) (h : x.k = 2) (hw : x.wf = true) (h1 : 1 ≤ x.h) (h2 : x.h ≤ 3) (h3 : 0 ≤ x.a) (h4 : x.a ≤ 9) : (NA.hs (7 + 1) (gC x)).ok := by
  obtain ⟨b1, b2, v1, v2, r1, r2⟩ := wf_nums hw
  obtain ⟨s1, s2, c1, c2⟩ := hx
  exact ⟨fun j hj => match j, hj with
    | 0, _ => okN_le (by show 0 ≤ x.k; omega) (by show x.k ≤ _; omega)
    | 1, _ => okN_le (by show 0 ≤ x.b; omega) (by show x.b ≤ _; omega)
    | 2, _ => okN_le (by show 0 ≤ x.v; omega) (by show x.v ≤ _; omega)
    | 3, _ => okN_le (by show 0 ≤ x.r; omega) (by show x.r ≤ _; omega)
    | 4, _ => okN_le (by show 0 ≤ x.s; omega) (by show x.s ≤ _; omega)
    | 5, _ => okN_le (by show 0 ≤ x.h; omega) (by show x.h ≤ _; omega)
    | 6, _ => okN_le (by show 0 ≤ x.a; omega) (by show x.a ≤ _; omega)
    | 7, _ => okN_le (by show 0 ≤ x.c; omega) (by show x.c ≤ _; omega)
    | j + 8, h => absurd h (by show ¬ j + 8 < 7 + 1; omega), by show 7 + 1 ≤ 100000; omega, fun _ => by show 0 < 7 + 1; omega⟩
theorem wrapS {n : Int} (h : 0 ≤ n) (h' : n < 4294967296) : IntKind.i64.wrap n = n := by rw [wrap64E]; omega
def AnsC (x : Ct) (m : Nat) : Prop := Answers Try.prog Γb 41 [x.av] [] (.tup [.hs 0 0 (catN (gC x) m).size, .v (.int .i64 0)]) [] [.arr 1 (catN (gC x) m).size (bsF (catN (gC x) m))]
theorem okCond {x : Ct} (h : x.ok = true) : (!decide ((bif (Ct.mk x.k x.b x.v x.r x.h x.a x.s x.c).ok then (0 : Int) else (110 : Int)) = (0 : Int))) = false := by
  rw [show (Ct.mk x.k x.b x.v x.r x.h x.a x.s x.c).ok = true from h]; rfl
theorem ansC0 {x : Ct} (hok : x.ok = true) (h : x.k = 0) : AnsC x 1 := answers (fn := Try.f41) (c := bodyOf Try.f41) (ntmps := 46) (results := [.tmp 2, .tmp 3]) [Z.c93, CT.at 82 (ansNumsH 0 (gC x) (na0 h))] Lno false Try.func41 (by kernel_rfl) (by kernel_rfl) (by kernel_rfl) (by kernel_rfl) (by simp) rfl (noLoops (by kernel_rfl)) (by
  refine Meets.of (runB0 x (na0 h)) ⟨rfl, ?_⟩
  rw [okCond hok, decide_eq_true h, decide_eq_false (show ¬ x.k = 2 by omega)]
  exact ⟨fun h => by simp at h, fun _ => ⟨fun h => by simp at h, fun _ => ⟨fun h => by simp at h, fun _ => ⟨cl_iff.2 ⟨LeL.refl _, .arr rfl (fun j hj => match j, hj with | 0, _ => rfl | j + 1, h => absurd h (by omega)) (fun _ => rfl), trivial⟩, .refl _, .refl _, trivial⟩⟩⟩⟩)
theorem ansC4 {x : Ct} (hx : x.wide) (hok : x.ok = true) (h : x.k = 1) (hw : x.wf = true) : AnsC x 5 := answers (fn := Try.f41) (c := bodyOf Try.f41) (ntmps := 46) (results := [.tmp 2, .tmp 3]) [Z.c93, CT.at 82 (ansNumsH 4 (gC x) (na4 hx h hw))] Lno false Try.func41 (by kernel_rfl) (by kernel_rfl) (by kernel_rfl) (by kernel_rfl) (by simp) rfl (noLoops (by kernel_rfl)) (by
  have w1 := wrapS hx.1 hx.2.1
  refine Meets.of (runB4 x (na4 hx h hw)) ⟨rfl, ?_⟩
  rw [okCond hok, decide_eq_false (show ¬ x.k = 0 by omega), decide_eq_false (show ¬ x.k = 2 by omega)]
  exact ⟨fun h => by simp at h, fun _ => ⟨fun _ => ⟨rfl, fun h => by simp at h, fun _ => ⟨cl_iff.2 ⟨LeL.refl _, .arr rfl (fun j hj => match j, hj with | 0, _ => rfl | 1, _ => rfl | 2, _ => rfl | 3, _ => rfl | 4, _ => by show [AV.v (Value.int IntKind.i64 (IntKind.i64.wrap x.s))] = [AV.v (Value.int IntKind.i64 x.s)]; rw [w1] | j + 5, h => absurd h (by omega)) (fun _ => rfl), trivial⟩, .refl _, .refl _, trivial⟩⟩, fun h => by simp at h⟩⟩)
theorem ansC7 {x : Ct} (hx : x.wide) (hok : x.ok = true) (h : x.k = 2) (hw : x.wf = true) (h1 : 1 ≤ x.h) (h2 : x.h ≤ 3) (h3 : 0 ≤ x.a) (h4 : x.a ≤ 9) : AnsC x 8 := answers (fn := Try.f41) (c := bodyOf Try.f41) (ntmps := 46) (results := [.tmp 2, .tmp 3]) [Z.c93, CT.at 82 (ansNumsH 7 (gC x) (na7 hx h hw h1 h2 h3 h4))] Lno false Try.func41 (by kernel_rfl) (by kernel_rfl) (by kernel_rfl) (by kernel_rfl) (by simp) rfl (noLoops (by kernel_rfl)) (by
  have w1 := wrapS hx.1 hx.2.1
  have w2 := wrapS hx.2.2.1 hx.2.2.2
  refine Meets.of (runB7 x (na7 hx h hw h1 h2 h3 h4)) ⟨rfl, ?_⟩
  rw [okCond hok, decide_eq_false (show ¬ x.k = 0 by omega), decide_eq_true h]
  exact ⟨fun h => by simp at h, fun _ => ⟨fun _ => ⟨rfl, fun _ => ⟨rfl, cl_iff.2 ⟨LeL.refl _, .arr rfl (fun j hj => match j, hj with | 0, _ => rfl | 1, _ => rfl | 2, _ => rfl | 3, _ => rfl | 4, _ => by show [AV.v (Value.int IntKind.i64 (IntKind.i64.wrap x.s))] = [AV.v (Value.int IntKind.i64 x.s)]; rw [w1] | 5, _ => rfl | 6, _ => rfl | 7, _ => by show [AV.v (Value.int IntKind.i64 (IntKind.i64.wrap x.c))] = [AV.v (Value.int IntKind.i64 x.c)]; rw [w2] | j + 8, h => absurd h (by omega)) (fun _ => rfl), trivial⟩, .refl _, .refl _, trivial⟩, fun h => by simp at h⟩, fun h => by simp at h⟩⟩)
theorem ansCx {x : Ct} (hok : x.ok = false) : Answers Try.prog Γb 41 [x.av] [] (.tup [.v (.slice none 0 0), .v (.int .i64 110)]) [] [] := answers (fn := Try.f41) (c := bodyOf Try.f41) (ntmps := 46) (results := [.tmp 2, .tmp 3]) [Z.c93] Lno false Try.func41 (by kernel_rfl) (by kernel_rfl) (by kernel_rfl) (by kernel_rfl) (by simp) rfl (noLoops (by kernel_rfl)) (by
  refine Meets.of (runBx x) ⟨rfl, ?_⟩
  rw [show (Ct.mk x.k x.b x.v x.r x.h x.a x.s x.c).ok = false from hok]
  exact ⟨fun _ => ⟨.refl _, trivial⟩, fun h => by simp at h⟩)
end Go.Eng.SB

namespace Go.Eng
open Go
theorem and127 (a : Int) (h : 0 ≤ a) (h' : a < 256) : bitI .and .u8 a 127 = a % 128 := by
  obtain ⟨n, rfl⟩ := Int.eq_ofNat_of_zero_le h
  have : ∀ k : Fin 256, bitI .and .u8 ((k.val : Nat) : Int) 127 = ((k.val : Nat) : Int) % 128 := by decide +kernel
  exact this ⟨n, by omega⟩
theorem pow128 (i : Nat) : (128 : Nat) ^ i = 2 ^ (7 * i) := by rw [show (128 : Nat) = 2 ^ 7 from rfl, ← Nat.pow_mul]
theorem pow128_le {i : Nat} (h : i ≤ 8) : (128 : Nat) ^ i ≤ 72057594037927936 := by
  have : (128 : Nat) ^ i ≤ 128 ^ 8 := Nat.pow_le_pow_right (by decide) h
  exact Nat.le_trans this (by decide)
theorem or_u64 (a b : Nat) (ha : a < 2 ^ 64) (hb : b < 2 ^ 64) : bitI .or .u64 (a : Int) (b : Int) = ((a ||| b : Nat) : Int) := by
  show IntKind.u64.wrap (((BitVec.ofInt 64 (a : Int) ||| BitVec.ofInt 64 (b : Int)).toNat : Nat) : Int) = _
  have e1 : ∀ x : Nat, x < 2 ^ 64 → (BitVec.ofInt 64 (x : Int)).toNat = x := fun x hx => by rw [BitVec.toNat_ofInt]; omega
  rw [BitVec.toNat_or, e1 a ha, e1 b hb, wrapU64]
  have := Nat.or_lt_two_pow ha hb
  omega
theorem dig {n i : Nat} {c : Int} (hn : n < 128 ^ i) (hi : i ≤ 8) (h : 0 ≤ c) (h' : c < 256) :
    bitI .or .u64 (n : Int) (IntKind.u64.wrap (IntKind.u64.wrap (bitI .and .u8 c 127) * (2 : Int) ^ min (IntKind.i64.wrap ((7 : Int) * (i : Int))).toNat 64)) = ((n + c.toNat % 128 * 128 ^ i : Nat) : Int) := by
  obtain ⟨k, rfl⟩ := Int.eq_ofNat_of_zero_le h
  have e1 : IntKind.i64.wrap ((7 : Int) * (i : Int)) = ((7 * i : Nat) : Int) := by rw [wrap64E]; omega
  have e2 : IntKind.u64.wrap (bitI .and .u8 (k : Int) 127) = ((k % 128 : Nat) : Int) := by rw [and127 _ h h', wrapU64]; omega
  have e3 : min (7 * i) 64 = 7 * i := Nat.min_eq_left (by omega)
  have hp := pow128_le hi
  have hk : k % 128 < 128 := Nat.mod_lt _ (by decide)
  have hm : k % 128 * 128 ^ i ≤ 127 * 72057594037927936 := Nat.mul_le_mul (by omega) hp
  rw [e1, e2, Int.toNat_natCast, e3]
  have e4 : ((k % 128 : Nat) : Int) * (2 : Int) ^ (7 * i) = ((k % 128 * 128 ^ i : Nat) : Int) := by
    rw [pow128]; simp
  rw [e4]
  have e5 : IntKind.u64.wrap ((k % 128 * 128 ^ i : Nat) : Int) = ((k % 128 * 128 ^ i : Nat) : Int) := by rw [wrapU64]; omega
  rw [e5, or_u64 _ _ (by omega) (by omega), Int.toNat_natCast]
  congr 1
  rw [Nat.or_comm, Nat.mul_comm, pow128]
  rw [pow128] at hn
  rw [← Nat.two_pow_add_eq_or_of_lt hn]
  omega
def byt (t : ByteArray) (j : Nat) : Nat := (sbyte t j).toNat
theorem byt_lt (t : ByteArray) (j : Nat) : byt t j < 256 := by
  have := sbyte_range t j
  unfold byt; omega
theorem sbyte_byt (t : ByteArray) (j : Nat) : sbyte t j = (byt t j : Int) := by
  have := sbyte_range t j
  unfold byt; omega
def vAt (t : ByteArray) (off : Nat) : Nat → Nat
  | 0 => 0
  | i + 1 => vAt t off i + byt t (off + i) % 128 * 128 ^ i
theorem vAt_lt (t : ByteArray) (off : Nat) : ∀ i, vAt t off i < 128 ^ i
  | 0 => by simp [vAt]
  | i + 1 => by
    have h := vAt_lt t off i
    have hk : byt t (off + i) % 128 ≤ 127 := by omega
    have : byt t (off + i) % 128 * 128 ^ i ≤ 127 * 128 ^ i := Nat.mul_le_mul_right _ hk
    simp only [vAt, Nat.pow_succ]
    omega
theorem vAt_front (t : ByteArray) (off : Nat) : ∀ i, vAt t off (i + 1) = byt t off % 128 + 128 * vAt t (off + 1) i
  | 0 => by simp [vAt]
  | i + 1 => by
    rw [vAt, vAt_front t off i, vAt, show off + (i + 1) = off + 1 + i by omega, Nat.pow_succ, Nat.mul_add]
    have : byt t (off + 1 + i) % 128 * (128 ^ i * 128) = 128 * (byt t (off + 1 + i) % 128 * 128 ^ i) := by
      rw [Nat.mul_comm (128 ^ i) 128, ← Nat.mul_assoc, Nat.mul_comm _ 128, Nat.mul_assoc]
    omega
structure GoodAt (t : ByteArray) (off i : Nat) : Prop where
  hi : ∀ j, j < i → 128 ≤ byt t (off + j)
  lo : byt t (off + i) < 128
  nz : 0 < i → byt t (off + i) ≠ 0
theorem GoodAt.tail {t : ByteArray} {off i : Nat} (h : GoodAt t off (i + 1)) : GoodAt t (off + 1) i where
  hi := fun j hj => by have := h.hi (j + 1) (by omega); rwa [show off + (j + 1) = off + 1 + j by omega] at this
  lo := by have := h.lo; rwa [show off + (i + 1) = off + 1 + i by omega] at this
  nz := fun _ => by have := h.nz (by omega); rwa [show off + (i + 1) = off + 1 + i by omega] at this
theorem vAt_pos {t : ByteArray} : ∀ {i off : Nat}, GoodAt t off i → 0 < i → 0 < vAt t off (i + 1)
  | 0, _, _, h => absurd h (Nat.lt_irrefl _)
  | i + 1, off, h, _ => by
    have h1 := h.nz (by omega)
    have h2 := h.lo
    have : 0 < byt t (off + (i + 1)) % 128 := by omega
    have h3 : 0 < byt t (off + (i + 1)) % 128 * 128 ^ (i + 1) := Nat.mul_pos this (Nat.pow_pos (by decide))
    rw [vAt]; omega
theorem GoodAt.bytes {t : ByteArray} : ∀ {i off : Nat}, GoodAt t off i → (numB (vAt t off (i + 1))).size = i + 1 ∧ ∀ j, j ≤ i → sbyte (numB (vAt t off (i + 1))) j = sbyte t (off + j)
  | 0, off, h => by
    have hl := h.lo
    rw [Nat.add_zero] at hl
    have e : vAt t off 1 = byt t off := by simp [vAt]; omega
    have e2 : numB (byt t off) = oneB (byt t off) := by
      unfold numB
      rw [hiB_lt hl, loN_lt hl, empty_append]
    rw [e, e2]
    refine ⟨rfl, fun j hj => ?_⟩
    obtain rfl : j = 0 := Nat.le_zero.1 hj
    rw [sbyte_oneB (byt_lt t off), Nat.add_zero, sbyte_byt]
  | i + 1, off, h => by
    have ht := h.tail
    obtain ⟨h1, h2⟩ := GoodAt.bytes ht
    have h0 := h.hi 0 (by omega)
    rw [Nat.add_zero] at h0
    have hb := byt_lt t off
    have e := vAt_front t off (i + 1)
    have hpos : 0 < vAt t (off + 1) (i + 1) := by
      rcases Nat.eq_zero_or_pos i with rfl | hi
      · have h3 := h.nz (by omega)
        have h4 := h.lo
        simp only [Nat.zero_add] at h3 h4
        have : vAt t (off + 1) (0 + 1) = byt t (off + 1) % 128 := by simp [vAt]
        omega
      · exact vAt_pos ht hi
    have hge : ¬ vAt t off (i + 1 + 1) < 128 := by omega
    have hd : vAt t off (i + 1 + 1) / 128 = vAt t (off + 1) (i + 1) := by omega
    have hm : vAt t off (i + 1 + 1) % 128 + 128 = byt t off := by omega
    have en : numB (vAt t off (i + 1 + 1)) = oneB (byt t off) ++ numB (vAt t (off + 1) (i + 1)) := by
      show hiB _ ++ oneB (loN _) = _
      rw [hiB_ge hge, loN_ge hge, hd, hm, ByteArray.append_assoc]
      rfl
    rw [en]
    refine ⟨by simp [h1]; omega, fun j hj => ?_⟩
    rw [sbyte_append]
    cases j with
    | zero => rw [if_pos (by simp), sbyte_oneB hb, Nat.add_zero, sbyte_byt]
    | succ j =>
      rw [if_neg (by simp), show j + 1 - (oneB (byt t off)).size = j by simp, h2 j (by omega), show off + (j + 1) = off + 1 + j by omega]
theorem numB_good (n : Nat) : ∀ (t : ByteArray) (off : Nat), (∀ j, j < (numB n).size → sbyte t (off + j) = sbyte (numB n) j) → ∃ i, (numB n).size = i + 1 ∧ GoodAt t off i ∧ vAt t off (i + 1) = n := by
  induction n using Nat.strongRecOn with
  | _ n ih =>
    intro t off h
    by_cases hl : n < 128
    · have e2 : numB n = oneB n := by
        unfold numB
        rw [hiB_lt hl, loN_lt hl, empty_append]
      rw [e2] at h ⊢
      have h0 := h 0 (by simp)
      rw [sbyte_oneB (by omega), Nat.add_zero, sbyte_byt] at h0
      have h0 : byt t off = n := by omega
      refine ⟨0, rfl, ⟨fun j hj => absurd hj (Nat.not_lt_zero _), by rw [Nat.add_zero, h0]; exact hl, fun h => absurd h (Nat.lt_irrefl _)⟩, ?_⟩
      simp [vAt, h0]; omega
    · have en : numB n = oneB (n % 128 + 128) ++ numB (n / 128) := by
        show hiB _ ++ oneB (loN _) = _
        rw [hiB_ge hl, loN_ge hl, ByteArray.append_assoc]
        rfl
      have h0 := h 0 (by rw [en]; simp; omega)
      rw [en, sbyte_append, if_pos (by simp), sbyte_oneB (by omega), Nat.add_zero, sbyte_byt] at h0
      have h0 : byt t off = n % 128 + 128 := by omega
      obtain ⟨i, h1, h2, h3⟩ := ih (n / 128) (by omega) t (off + 1) fun j hj => by
        have := h (j + 1) (by rw [en]; simp; omega)
        rw [en, sbyte_append, if_neg (by simp), show j + 1 - (oneB (n % 128 + 128)).size = j by simp, show off + (j + 1) = off + 1 + j by omega] at this
        exact this
      refine ⟨i + 1, by rw [en]; simp [h1]; omega, ⟨fun j hj => ?_, ?_, fun _ => ?_⟩, ?_⟩
      · cases j with
        | zero => rw [Nat.add_zero, h0]; omega
        | succ j => have := h2.hi j (by omega); rwa [show off + (j + 1) = off + 1 + j by omega]
      · have := h2.lo; rwa [show off + (i + 1) = off + 1 + i by omega]
      · rw [show off + (i + 1) = off + 1 + i by omega]
        rcases Nat.eq_zero_or_pos i with rfl | hi
        · intro hz
          simp only [Nat.add_zero] at hz
          simp [vAt, hz] at h3
          omega
        · exact h2.nz hi
      · rw [vAt_front, h3, h0]; omega
end Go.Eng

namespace Go.Eng.RD
open Go Go.Eng
def BadC (t : ByteArray) (off k : Nat) : Prop := (byt t (off + k) < 128 ∧ byt t (off + k) = 0 ∧ 0 < k) ∨ (k = 8 ∧ (128 ≤ byt t (off + k) ∨ 4611686018427387904 < vAt t off (k + 1)))
def IsGood (t : ByteArray) (off len k : Nat) : Prop := k < len ∧ k ≤ 8 ∧ GoodAt t off k ∧ vAt t off (k + 1) ≤ 4611686018427387904
def IsCut (t : ByteArray) (off len : Nat) : Prop := len ≤ 8 ∧ ∀ j, j < len → 128 ≤ byt t (off + j)
def IsBad (t : ByteArray) (off len k : Nat) : Prop := k < len ∧ k ≤ 8 ∧ (∀ j, j < k → 128 ≤ byt t (off + j)) ∧ BadC t off k
theorem firstLow (t : ByteArray) (off : Nat) : ∀ m, (∀ j, j < m → 128 ≤ byt t (off + j)) ∨ ∃ k, k < m ∧ (∀ j, j < k → 128 ≤ byt t (off + j)) ∧ byt t (off + k) < 128
  | 0 => .inl fun j hj => absurd hj (Nat.not_lt_zero _)
  | m + 1 => by
    rcases firstLow t off m with h | ⟨k, h1, h2, h3⟩
    · by_cases hb : byt t (off + m) < 128
      · exact .inr ⟨m, Nat.lt_succ_self m, h, hb⟩
      · refine .inl fun j hj => ?_
        rcases Nat.lt_succ_iff_lt_or_eq.1 hj with h' | rfl
        · exact h j h'
        · omega
    · exact .inr ⟨k, Nat.lt_succ_of_lt h1, h2, h3⟩
theorem classify (t : ByteArray) (off len : Nat) : (∃ k, IsGood t off len k) ∨ IsCut t off len ∨ ∃ k, IsBad t off len k := by
  rcases firstLow t off (min len 9) with h | ⟨k, h1, h2, h3⟩
  · by_cases hl : len ≤ 8
    · exact .inr (.inl ⟨hl, fun j hj => h j (by omega)⟩)
    · exact .inr (.inr ⟨8, by omega, by omega, fun j hj => h j (by omega), .inr ⟨rfl, .inl (h 8 (by omega))⟩⟩)
  · by_cases hz : 0 < k ∧ byt t (off + k) = 0
    · exact .inr (.inr ⟨k, by omega, by omega, h2, .inl ⟨h3, hz.2, hz.1⟩⟩)
    · by_cases hv : k = 8 ∧ 4611686018427387904 < vAt t off (k + 1)
      · exact .inr (.inr ⟨k, by omega, by omega, h2, .inr ⟨hv.1, .inr hv.2⟩⟩)
      · refine .inl ⟨k, by omega, by omega, ⟨h2, h3, fun hp h0 => hz ⟨hp, h0⟩⟩, ?_⟩
        by_cases h8 : k = 8
        · omega
        · have h4 := vAt_lt t off (k + 1)
          have h5 : (128 : Nat) ^ (k + 1) ≤ 128 ^ 8 := Nat.pow_le_pow_right (by decide) (by omega)
          have h6 : (128 : Nat) ^ 8 = 72057594037927936 := by decide
          omega
theorem good_unique {t : ByteArray} {off len k k' : Nat} (h : IsGood t off len k) (h' : IsGood t off len k') : k = k' := by
  rcases Nat.lt_trichotomy k k' with hl | rfl | hl
  · have := h'.2.2.1.hi k hl; have := h.2.2.1.lo; omega
  · rfl
  · have := h.2.2.1.hi k' hl; have := h'.2.2.1.lo; omega
open Classical in
noncomputable def kG (t : ByteArray) (off len : Nat) : Nat := if h : ∃ k, IsGood t off len k then h.choose else 0
theorem kG_of {t : ByteArray} {off len k : Nat} (h : IsGood t off len k) : kG t off len = k := by
  have h' : ∃ k, IsGood t off len k := ⟨k, h⟩
  unfold kG
  rw [dif_pos h']
  exact good_unique h'.choose_spec h
def qG (t : ByteArray) (off : Nat) : Prop := ∃ k, IsGood t off (t.size - off) k
open Classical in
noncomputable def qN (t : ByteArray) (off : Nat) (e : Int) : Int := if ¬ e = 0 then 0 else if qG t off then (vAt t off (kG t off (t.size - off) + 1) : Int) else 0
open Classical in
noncomputable def qO (t : ByteArray) (off : Nat) (e : Int) : Nat := if ¬ e = 0 then off else if qG t off then off + (kG t off (t.size - off) + 1) else t.size
open Classical in
noncomputable def qE (t : ByteArray) (off : Nat) (e : Int) : Int := if ¬ e = 0 then e else if qG t off then 0 else if IsCut t off (t.size - off) then 30 else 31
theorem qN_bad {t : ByteArray} {off : Nat} {e : Int} (h : ¬ e = 0) : qN t off e = 0 := if_pos h
theorem qO_bad {t : ByteArray} {off : Nat} {e : Int} (h : ¬ e = 0) : qO t off e = off := if_pos h
theorem qE_bad {t : ByteArray} {off : Nat} {e : Int} (h : ¬ e = 0) : qE t off e = e := if_pos h
theorem q_good {t : ByteArray} {off k : Nat} (h : IsGood t off (t.size - off) k) : qN t off 0 = (vAt t off (k + 1) : Int) ∧ qO t off 0 = off + (k + 1) ∧ qE t off 0 = 0 := by
  have g : qG t off := ⟨k, h⟩
  unfold qN qO qE
  rw [if_neg (by simp), if_pos g, if_neg (by simp), if_pos g, if_neg (by simp), if_pos g, kG_of h]
  exact ⟨rfl, rfl, rfl⟩
theorem q_cut {t : ByteArray} {off : Nat} (h : IsCut t off (t.size - off)) : qN t off 0 = 0 ∧ qO t off 0 = t.size ∧ qE t off 0 = 30 := by
  have g : ¬ qG t off := fun ⟨k, h1, h2, h3, h4⟩ => by
    have := h.2 k h1; have := h3.lo; omega
  unfold qN qO qE
  rw [if_neg (by simp), if_neg g, if_neg (by simp), if_neg g, if_neg (by simp), if_neg g, if_pos h]
  exact ⟨rfl, rfl, rfl⟩
theorem q_no {t : ByteArray} {off k : Nat} (h : IsBad t off (t.size - off) k) : qN t off 0 = 0 ∧ qO t off 0 = t.size ∧ qE t off 0 = 31 := by
  obtain ⟨h1, h2, h3, h4⟩ := h
  have g : ¬ qG t off := fun ⟨k', g1, g2, g3, g4⟩ => by
    rcases Nat.lt_trichotomy k k' with hl | rfl | hl
    · have := g3.hi k hl
      rcases h4 with ⟨b1, b2, b3⟩ | ⟨b1, b2⟩
      · omega
      · omega
    · rcases h4 with ⟨b1, b2, b3⟩ | ⟨b1, b2⟩
      · exact g3.nz b3 b2
      · have := g3.lo; omega
    · have := h3 k' hl; have := g3.lo; omega
  have c : ¬ IsCut t off (t.size - off) := fun ⟨c1, c2⟩ => by
    have := c2 k h1
    rcases h4 with ⟨b1, b2, b3⟩ | ⟨b1, b2⟩
    · omega
    · omega
  unfold qN qO qE
  rw [if_neg (by simp), if_neg g, if_neg (by simp), if_neg g, if_neg (by simp), if_neg g, if_neg c]
  exact ⟨rfl, rfl, rfl⟩
theorem qO_le {t : ByteArray} {off : Nat} {e : Int} (h : off ≤ t.size) : off ≤ qO t off e ∧ qO t off e ≤ t.size := by
  by_cases he : e = 0
  · subst he
    rcases classify t off (t.size - off) with ⟨k, hk⟩ | hc | ⟨k, hk⟩
    · rw [(q_good hk).2.1]
      have := hk.1
      omega
    · rw [(q_cut hc).2.1]; omega
    · rw [(q_no hk).2.1]; omega
  · rw [qO_bad he]; omega
theorem qN_range {t : ByteArray} {off : Nat} {e : Int} : 0 ≤ qN t off e ∧ qN t off e ≤ 4611686018427387904 := by
  by_cases he : e = 0
  · subst he
    rcases classify t off (t.size - off) with ⟨k, hk⟩ | hc | ⟨k, hk⟩
    · rw [(q_good hk).1]
      have := hk.2.2.2
      omega
    · rw [(q_cut hc).1]; omega
    · rw [(q_no hk).1]; omega
  · rw [qN_bad he]; omega
def okS (t : ByteArray) (off : Nat) (e : Int) : Prop := off ≤ t.size ∧ (e = 0 ∨ off = t.size)
theorem q_okS {t : ByteArray} {off : Nat} {e : Int} (h : okS t off e) : okS t (qO t off e) (qE t off e) := by
  refine ⟨(qO_le h.1).2, ?_⟩
  by_cases he : e = 0
  · subst he
    rcases classify t off (t.size - off) with ⟨k, hk⟩ | hc | ⟨k, hk⟩
    · exact .inl (q_good hk).2.2
    · exact .inr (q_cut hc).2.1
    · exact .inr (q_no hk).2.1
  · rw [qO_bad he]; exact .inr (h.2.resolve_left he)
end Go.Eng.RD

namespace Go.Eng.SB
open Go Go.Eng Go.Eng.M Go.Eng.RD Go.Proofs
noncomputable def kFail : CT Try.prog Γb := CT.auto false 100 3 [] 97 Try.f97 (bodyOf Try.f97) false 24 [] Try.func97 (by kernel_rfl) (by kernel_rfl) (by kernel_rfl) (by kernel_rfl)
noncomputable def loopP : Code := loopOf (bodyOf Try.f87) 0
theorem roundP (off len N i : Nat) (n : Nat) (t : ByteArray) : roundE (P := Try.prog) (Γ := Γb) [kFail] Lno false 2 0 loopP [0, 19, 20, 21, 3, 2] [] 75 [.ptr 0 0, .hs 1 off len, .v (.int .i64 (len : Int)), .v (.int .i64 (i : Int)), .v (.int .u64 (n : Int)), .any] [some (.row [.hs 1 off len, .v (.int .i64 0)]), some (.arr 1 N (bsF t))] =
  Tree.br (decide ((↑i : Int) < (↑len : Int))) (Tree.chk (decide ((0 : Int) ≤ (↑i : Int)) && decide ((↑i : Int) < (↑len : Int))) (Tree.chk (decide ((0 : Int) ≤ IntKind.wrap IntKind.i64 ((7 :
    Int) * (↑i : Int)))) (Tree.br (bif decide (sbyte t (off + i) < (128 : Int)) then bif decide (sbyte t (off + i) = (0 : Int)) then decide ((0 : Int) < (↑i : Int)) else false else false)
    (Tree.br (bif decide (sbyte t (off + i) < (128 : Int)) then bif decide (sbyte t (off + i) = (0 : Int)) then decide ((0 : Int) < (↑i : Int)) else false else false) (Tree.br true
    (Tree.leaf (Out.mk AEx.ret [AV.ptr (0 : Nat) (0 : Nat), AV.hs (1 : Nat) off len, AV.v (Value.int IntKind.i64 (↑len : Int)), AV.v (Value.int IntKind.i64 (↑i : Int)), AV.v (Value.int
    IntKind.u64 (bitI BinOp.or IntKind.u64 (↑n : Int) (IntKind.wrap IntKind.u64 (IntKind.wrap IntKind.u64 (bitI BinOp.and IntKind.u8 (sbyte t (off + i)) (127 : Int)) * (2 : Int) ^ min
    (Int.toNat (IntKind.wrap IntKind.i64 ((7 : Int) * (↑i : Int)))) (64 : Nat))))), AV.v (Value.int IntKind.i64 (0 : Int))] [some (Blk.row [AV.v (Value.slice none (0 : Nat) (0 : Nat)), AV.v
    (Value.int IntKind.i64 (31 : Int))]), some (Blk.arr (1 : Nat) N fun j => [AV.v (Value.int IntKind.u8 (sbyte t j))])])) (Tree.leaf (Out.mk AEx.ret [AV.ptr (0 : Nat) (0 : Nat), AV.hs (1 :
    Nat) off len, AV.v (Value.int IntKind.i64 (↑len : Int)), AV.v (Value.int IntKind.i64 (↑i : Int)), AV.v (Value.int IntKind.u64 (bitI BinOp.or IntKind.u64 (↑n : Int) (IntKind.wrap
    IntKind.u64 (IntKind.wrap IntKind.u64 (bitI BinOp.and IntKind.u8 (sbyte t (off + i)) (127 : Int)) * (2 : Int) ^ min (Int.toNat (IntKind.wrap IntKind.i64 ((7 : Int) * (↑i : Int)))) (64 :
    Nat))))), AV.v (Value.int IntKind.i64 (0 : Int))] [some (Blk.row [AV.hs (1 : Nat) off len, AV.v (Value.int IntKind.i64 (0 : Int))]), some (Blk.arr (1 : Nat) N fun j => [AV.v (Value.int
    IntKind.u8 (sbyte t j))])]))) (Tree.br (decide (sbyte t (off + i) < (128 : Int))) (Tree.chk (decide ((0 : Int) ≤ IntKind.wrap IntKind.i64 ((↑i : Int) + (1 : Int))) && decide
    (IntKind.wrap IntKind.i64 ((↑i : Int) + (1 : Int)) ≤ (↑len : Int)) && decide ((↑len : Int) ≤ (↑len : Int))) (Tree.leaf (Out.mk AEx.ret [AV.ptr (0 : Nat) (0 : Nat), AV.hs (1 : Nat) off
    len, AV.v (Value.int IntKind.i64 (↑len : Int)), AV.v (Value.int IntKind.i64 (↑i : Int)), AV.v (Value.int IntKind.u64 (bitI BinOp.or IntKind.u64 (↑n : Int) (IntKind.wrap IntKind.u64
    (IntKind.wrap IntKind.u64 (bitI BinOp.and IntKind.u8 (sbyte t (off + i)) (127 : Int)) * (2 : Int) ^ min (Int.toNat (IntKind.wrap IntKind.i64 ((7 : Int) * (↑i : Int)))) (64 : Nat))))),
    AV.v (Value.int IntKind.i64 (IntKind.wrap IntKind.i64 (bitI BinOp.or IntKind.u64 (↑n : Int) (IntKind.wrap IntKind.u64 (IntKind.wrap IntKind.u64 (bitI BinOp.and IntKind.u8 (sbyte t (off +
    i)) (127 : Int)) * (2 : Int) ^ min (Int.toNat (IntKind.wrap IntKind.i64 ((7 : Int) * (↑i : Int)))) (64 : Nat))))))] [some (Blk.row [AV.hs (1 : Nat) (off + Int.toNat (IntKind.wrap
    IntKind.i64 ((↑i : Int) + (1 : Int)))) (len - Int.toNat (IntKind.wrap IntKind.i64 ((↑i : Int) + (1 : Int)))), AV.v (Value.int IntKind.i64 (0 : Int))]), some (Blk.arr (1 : Nat) N fun j =>
    [AV.v (Value.int IntKind.u8 (sbyte t j))])]))) (Tree.leaf (Out.mk AEx.normal [AV.ptr (0 : Nat) (0 : Nat), AV.hs (1 : Nat) off len, AV.v (Value.int IntKind.i64 (↑len : Int)), AV.v
    (Value.int IntKind.i64 (IntKind.wrap IntKind.i64 ((↑i : Int) + (1 : Int)))), AV.v (Value.int IntKind.u64 (bitI BinOp.or IntKind.u64 (↑n : Int) (IntKind.wrap IntKind.u64 (IntKind.wrap
    IntKind.u64 (bitI BinOp.and IntKind.u8 (sbyte t (off + i)) (127 : Int)) * (2 : Int) ^ min (Int.toNat (IntKind.wrap IntKind.i64 ((7 : Int) * (↑i : Int)))) (64 : Nat))))), AV.any] [some
    (Blk.row [AV.hs (1 : Nat) off len, AV.v (Value.int IntKind.i64 (0 : Int))]), some (Blk.arr (1 : Nat) N fun j => [AV.v (Value.int IntKind.u8 (sbyte t j))])])))) (Tree.br (bif decide ((↑i
    : Int) = (8 : Int)) then bif !decide (sbyte t (off + i) < (128 : Int)) then true else decide ((4611686018427387904 : Int) < bitI BinOp.or IntKind.u64 (↑n : Int) (IntKind.wrap IntKind.u64
    (IntKind.wrap IntKind.u64 (bitI BinOp.and IntKind.u8 (sbyte t (off + i)) (127 : Int)) * (2 : Int) ^ min (Int.toNat (IntKind.wrap IntKind.i64 ((7 : Int) * (↑i : Int)))) (64 : Nat)))) else
    false) (Tree.br true (Tree.leaf (Out.mk AEx.ret [AV.ptr (0 : Nat) (0 : Nat), AV.hs (1 : Nat) off len, AV.v (Value.int IntKind.i64 (↑len : Int)), AV.v (Value.int IntKind.i64 (↑i : Int)),
    AV.v (Value.int IntKind.u64 (bitI BinOp.or IntKind.u64 (↑n : Int) (IntKind.wrap IntKind.u64 (IntKind.wrap IntKind.u64 (bitI BinOp.and IntKind.u8 (sbyte t (off + i)) (127 : Int)) * (2 :
    Int) ^ min (Int.toNat (IntKind.wrap IntKind.i64 ((7 : Int) * (↑i : Int)))) (64 : Nat))))), AV.v (Value.int IntKind.i64 (0 : Int))] [some (Blk.row [AV.v (Value.slice none (0 : Nat) (0 :
    Nat)), AV.v (Value.int IntKind.i64 (31 : Int))]), some (Blk.arr (1 : Nat) N fun j => [AV.v (Value.int IntKind.u8 (sbyte t j))])])) (Tree.leaf (Out.mk AEx.ret [AV.ptr (0 : Nat) (0 : Nat),
    AV.hs (1 : Nat) off len, AV.v (Value.int IntKind.i64 (↑len : Int)), AV.v (Value.int IntKind.i64 (↑i : Int)), AV.v (Value.int IntKind.u64 (bitI BinOp.or IntKind.u64 (↑n : Int)
    (IntKind.wrap IntKind.u64 (IntKind.wrap IntKind.u64 (bitI BinOp.and IntKind.u8 (sbyte t (off + i)) (127 : Int)) * (2 : Int) ^ min (Int.toNat (IntKind.wrap IntKind.i64 ((7 : Int) * (↑i :
    Int)))) (64 : Nat))))), AV.v (Value.int IntKind.i64 (0 : Int))] [some (Blk.row [AV.hs (1 : Nat) off len, AV.v (Value.int IntKind.i64 (0 : Int))]), some (Blk.arr (1 : Nat) N fun j =>
    [AV.v (Value.int IntKind.u8 (sbyte t j))])]))) (Tree.br (decide (sbyte t (off + i) < (128 : Int))) (Tree.chk (decide ((0 : Int) ≤ IntKind.wrap IntKind.i64 ((↑i : Int) + (1 : Int))) &&
    decide (IntKind.wrap IntKind.i64 ((↑i : Int) + (1 : Int)) ≤ (↑len : Int)) && decide ((↑len : Int) ≤ (↑len : Int))) (Tree.leaf (Out.mk AEx.ret [AV.ptr (0 : Nat) (0 : Nat), AV.hs (1 : Nat)
    off len, AV.v (Value.int IntKind.i64 (↑len : Int)), AV.v (Value.int IntKind.i64 (↑i : Int)), AV.v (Value.int IntKind.u64 (bitI BinOp.or IntKind.u64 (↑n : Int) (IntKind.wrap IntKind.u64
    (IntKind.wrap IntKind.u64 (bitI BinOp.and IntKind.u8 (sbyte t (off + i)) (127 : Int)) * (2 : Int) ^ min (Int.toNat (IntKind.wrap IntKind.i64 ((7 : Int) * (↑i : Int)))) (64 : Nat))))),
    AV.v (Value.int IntKind.i64 (IntKind.wrap IntKind.i64 (bitI BinOp.or IntKind.u64 (↑n : Int) (IntKind.wrap IntKind.u64 (IntKind.wrap IntKind.u64 (bitI BinOp.and IntKind.u8 (sbyte t (off +
    i)) (127 : Int)) * (2 : Int) ^ min (Int.toNat (IntKind.wrap IntKind.i64 ((7 : Int) * (↑i : Int)))) (64 : Nat))))))] [some (Blk.row [AV.hs (1 : Nat) (off + Int.toNat (IntKind.wrap
    IntKind.i64 ((↑i : Int) + (1 : Int)))) (len - Int.toNat (IntKind.wrap IntKind.i64 ((↑i : Int) + (1 : Int)))), AV.v (Value.int IntKind.i64 (0 : Int))]), some (Blk.arr (1 : Nat) N fun j =>
    [AV.v (Value.int IntKind.u8 (sbyte t j))])]))) (Tree.leaf (Out.mk AEx.normal [AV.ptr (0 : Nat) (0 : Nat), AV.hs (1 : Nat) off len, AV.v (Value.int IntKind.i64 (↑len : Int)), AV.v
    (Value.int IntKind.i64 (IntKind.wrap IntKind.i64 ((↑i : Int) + (1 : Int)))), AV.v (Value.int IntKind.u64 (bitI BinOp.or IntKind.u64 (↑n : Int) (IntKind.wrap IntKind.u64 (IntKind.wrap
    IntKind.u64 (bitI BinOp.and IntKind.u8 (sbyte t (off + i)) (127 : Int)) * (2 : Int) ^ min (Int.toNat (IntKind.wrap IntKind.i64 ((7 : Int) * (↑i : Int)))) (64 : Nat))))), AV.any] [some
    (Blk.row [AV.hs (1 : Nat) off len, AV.v (Value.int IntKind.i64 (0 : Int))]), some (Blk.arr (1 : Nat) N fun j => [AV.v (Value.int IntKind.u8 (sbyte t j))])]))))))) (Tree.leaf (Out.mk
    (AEx.exit (0 : Nat)) [AV.ptr (0 : Nat) (0 : Nat), AV.hs (1 : Nat) off len, AV.v (Value.int IntKind.i64 (↑len : Int)), AV.v (Value.int IntKind.i64 (↑i : Int)), AV.v (Value.int IntKind.u64
    (↑n : Int)), AV.any] [some (Blk.row [AV.hs (1 : Nat) off len, AV.v (Value.int IntKind.i64 (0 : Int))]), some (Blk.arr (1 : Nat) N fun j => [AV.v (Value.int IntKind.u8 (sbyte t j))])])) := by kernel_rfl
def rdB (off len N : Nat) (t : ByteArray) : List Blk := [.row [.hs 1 off len, .v (.int .i64 0)], .arr 1 N (bsF t)]
def badB (e : Int) (N : Nat) (t : ByteArray) : List (Option Blk) := [some (.row [.v (.slice none 0 0), .v (.int .i64 e)]), some (.arr 1 N (bsF t))]
def SP (off len N : Nat) (t : ByteArray) (i : Nat) : List AV × Heap := ([.ptr 0 0, .hs 1 off len, .v (.int .i64 (len : Int)), .v (.int .i64 (i : Int)), .v (.int .u64 (vAt t off i : Int)), .any], (rdB off len N t).map some)
def OPg (off len N : Nat) (t : ByteArray) (k : Nat) : Out := ⟨.ret, [.any, .any, .any, .any, .any, .v (.int .i64 (vAt t off (k + 1) : Int))], (rdB (off + (k + 1)) (len - (k + 1)) N t).map some⟩
def OPb (N : Nat) (t : ByteArray) : Out := ⟨.ret, [.any, .any, .any, .any, .any, .v (.int .i64 0)], badB 31 N t⟩
def OPc (off len N : Nat) (t : ByteArray) : Out := ⟨.exit 0, [.ptr 0 0, .any, .any, .any, .any, .any], (rdB off len N t).map some⟩
theorem stepP {t : ByteArray} {off len N i : Nat} {Q : Out → Prop} (hi : i ≤ 8) (hlt : i < len) (hlen : len ≤ 1000000000000) :
    (∀ (c : Nat), c = byt t (off + i) →
      ((c < 128 ∧ c = 0 ∧ 0 < i) ∨ (i = 8 ∧ (128 ≤ c ∨ 4611686018427387904 < vAt t off (i + 1))) → Q ⟨.ret, [.ptr 0 0, .hs 1 off len, .v (.int .i64 (len : Int)), .v (.int .i64 (i : Int)), .v (.int .u64 (vAt t off (i + 1) : Int)), .v (.int .i64 0)], badB 31 N t⟩) ∧
      (c < 128 → (0 < i → c ≠ 0) → (i = 8 → vAt t off (i + 1) ≤ 4611686018427387904) → Q ⟨.ret, [.ptr 0 0, .hs 1 off len, .v (.int .i64 (len : Int)), .v (.int .i64 (i : Int)), .v (.int .u64 (vAt t off (i + 1) : Int)), .v (.int .i64 (vAt t off (i + 1) : Int))], (rdB (off + (i + 1)) (len - (i + 1)) N t).map some⟩) ∧
      (128 ≤ c → i < 8 → Q ⟨.normal, [.ptr 0 0, .hs 1 off len, .v (.int .i64 (len : Int)), .v (.int .i64 ((i + 1 : Nat) : Int)), .v (.int .u64 (vAt t off (i + 1) : Int)), .any], (rdB off len N t).map some⟩)) →
    (roundE (P := Try.prog) (Γ := Γb) [kFail] Lno false 2 0 loopP [0, 19, 20, 21, 3, 2] [] 75 [.ptr 0 0, .hs 1 off len, .v (.int .i64 (len : Int)), .v (.int .i64 (i : Int)), .v (.int .u64 (vAt t off i : Int)), .any] [some (.row [.hs 1 off len, .v (.int .i64 0)]), some (.arr 1 N (bsF t))]).sat Q := by
  intro h
  obtain ⟨h1, h2, h3⟩ := h _ rfl
  have hr := sbyte_range t (off + i)
  have hd := dig (c := sbyte t (off + i)) (vAt_lt t off i) hi hr.1 hr.2
  have hb : sbyte t (off + i) = (byt t (off + i) : Int) := sbyte_byt t _
  have hv : vAt t off i + byt t (off + i) % 128 * 128 ^ i = vAt t off (i + 1) := rfl
  have hbt := byt_lt t (off + i)
  have hvl : vAt t off (i + 1) < 9223372036854775808 := by
    have h1 := vAt_lt t off (i + 1)
    have h2 : (128 : Nat) ^ (i + 1) ≤ 128 ^ 9 := Nat.pow_le_pow_right (by decide) (by omega)
    have h3 : (128 : Nat) ^ 9 = 9223372036854775808 := by decide
    omega
  rw [hb, Int.toNat_natCast, hv] at hd
  rw [roundP]
  have e1 : IntKind.i64.wrap ((i : Int) + 1) = ((i + 1 : Nat) : Int) := by rw [wrap64E]; omega
  have e2 : IntKind.i64.wrap ((vAt t off (i + 1) : Nat) : Int) = ((vAt t off (i + 1) : Nat) : Int) := by rw [wrap64E]; omega
  have e3 : IntKind.i64.wrap ((7 : Int) * (i : Int)) = ((7 * i : Nat) : Int) := by rw [wrap64E]; omega
  have c1 : decide ((i : Int) < (len : Int)) = true := decide_eq_true (by omega)
  have c2 : decide ((0 : Int) ≤ (i : Int)) = true := decide_eq_true (by omega)
  have c3 : decide ((0 : Int) ≤ ((7 * i : Nat) : Int)) = true := decide_eq_true (by omega)
  have c4 : decide ((0 : Int) ≤ ((i + 1 : Nat) : Int)) = true := decide_eq_true (by omega)
  have c5 : decide (((i + 1 : Nat) : Int) ≤ (len : Int)) = true := decide_eq_true (by omega)
  simp only [Int.toNat_natCast, hb]
  simp only [hd]
  simp only [e1, e2, e3, c1, c2, c3, c4, c5, Int.toNat_natCast]
  refine ⟨fun _ => ⟨rfl, rfl, ?_⟩, fun h => by simp at h⟩
  by_cases hc : byt t (off + i) < 128
  · rw [decide_eq_true (show ((byt t (off + i) : Nat) : Int) < 128 by omega)]
    by_cases hz : byt t (off + i) = 0 ∧ 0 < i
    · rw [decide_eq_true (show ((byt t (off + i) : Nat) : Int) = 0 by omega), decide_eq_true (show (0 : Int) < (i : Int) by omega)]
      exact ⟨fun _ => ⟨fun _ => ⟨fun _ => h1 (.inl ⟨hc, hz.1, hz.2⟩), fun h => by simp at h⟩, fun h => by simp at h⟩, fun h => by simp at h⟩
    · have g : (bif true then bif decide (((byt t (off + i) : Nat) : Int) = 0) then decide ((0 : Int) < (i : Int)) else false else false) = false := by
        by_cases h0 : byt t (off + i) = 0
        · rw [decide_eq_true (show ((byt t (off + i) : Nat) : Int) = 0 by omega), decide_eq_false (show ¬ (0 : Int) < (i : Int) by omega)]; rfl
        · rw [decide_eq_false (show ¬ ((byt t (off + i) : Nat) : Int) = 0 by omega)]; rfl
      rw [g]
      by_cases h8 : i = 8 ∧ 4611686018427387904 < vAt t off (i + 1)
      · rw [decide_eq_true (show (i : Int) = 8 by omega), decide_eq_true (show (4611686018427387904 : Int) < ((vAt t off (i + 1) : Nat) : Int) by omega)]
        exact ⟨fun h => by simp at h, fun _ => ⟨fun _ => ⟨fun _ => h1 (.inr ⟨h8.1, .inr h8.2⟩), fun h => by simp at h⟩, fun h => by simp at h⟩⟩
      · have g2 : (bif decide ((i : Int) = 8) then bif !true then true else decide ((4611686018427387904 : Int) < ((vAt t off (i + 1) : Nat) : Int)) else false) = false := by
          by_cases h0 : i = 8
          · rw [decide_eq_true (show (i : Int) = 8 by omega), decide_eq_false (show ¬ (4611686018427387904 : Int) < ((vAt t off (i + 1) : Nat) : Int) by omega)]; rfl
          · rw [decide_eq_false (show ¬ (i : Int) = 8 by omega)]; rfl
        rw [g2]
        refine ⟨fun h => by simp at h, fun _ => ⟨fun h => by simp at h, fun _ => ⟨fun _ => ⟨by simp, h2 hc (fun hp h0 => hz ⟨h0, hp⟩) (fun h0 => by omega)⟩, fun h => by simp at h⟩⟩⟩
  · rw [decide_eq_false (show ¬ ((byt t (off + i) : Nat) : Int) < 128 by omega)]
    by_cases h8 : i = 8
    · rw [decide_eq_true (show (i : Int) = 8 by omega)]
      exact ⟨fun h => by simp at h, fun _ => ⟨fun _ => ⟨fun _ => h1 (.inr ⟨h8, .inl (by omega)⟩), fun h => by simp at h⟩, fun h => by simp at h⟩⟩
    · rw [decide_eq_false (show ¬ (i : Int) = 8 by omega)]
      exact ⟨fun h => by simp at h, fun _ => ⟨fun h => by simp at h, fun _ => ⟨fun h => by simp at h, fun _ => h3 (by omega) (by omega)⟩⟩⟩
end Go.Eng.SB
