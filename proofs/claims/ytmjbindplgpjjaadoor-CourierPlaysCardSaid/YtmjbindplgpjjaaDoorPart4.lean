/- Texts that CF15r needs: EngAO and what follows it. -/
import Derived.Test.YtmjbindplgpjjaaDoorPart3
import Derived.RowKit
import Derived.Carry
import Derived.Lib.DecodeN
import Derived.Lib.DecodeNEq
set_option linter.unnecessarySimpa false
set_option linter.unusedSectionVars false
set_option linter.unusedSimpArgs false
set_option linter.unusedVariables false
namespace Go.Eng
open Go
def lsF {α : Type} [Inhabited α] (c : α → List AV) (l : List α) : Nat → List AV := fun j => c (l.getD j default)
structure Cod {α : Type} (c : α → List AV) (sz : Nat) : Prop where
  len : ∀ x, (c x).length = sz
  mix : ∀ b x y, mixL b (c x) (c y) = c (bif b then x else y)
section
variable {α : Type} [Inhabited α] {c : α → List AV} {sz : Nat}
theorem getD_app {l r : List α} {j : Nat} (h : j < l.length) : (l ++ r).getD j default = l.getD j default := by
  rw [List.getD_eq_getElem?_getD, List.getD_eq_getElem?_getD, List.getElem?_append_left h]
theorem getD_app' {l r : List α} {j : Nat} (h : l.length ≤ j) : (l ++ r).getD j default = r.getD (j - l.length) default := by
  rw [List.getD_eq_getElem?_getD, List.getD_eq_getElem?_getD, List.getElem?_append_right h]
theorem getD_get {l : List α} {j : Nat} (h : j < l.length) : l.getD j default = l[j] := by
  rw [List.getD_eq_getElem?_getD, List.getElem?_eq_getElem h]; rfl
theorem Cod.row (h : Cod c sz) {N : Nat} {f : Nat → List AV} {l : List α} (hN : N = l.length) (hf : ∀ e, e < N → f e = lsF c l e) : OLe (some (.arr sz N f)) (some (.arr sz l.length (lsF c l))) := by
  subst hN
  exact .some (.arr (fun e he => by rw [hf e he]; exact LeL.refl _) fun e => h.len _)
theorem Cod.mixT (h : Cod c sz) (x y : α) : mixL true (c x) (c y) = c x := h.mix true x y
theorem Cod.mixF (h : Cod c sz) (x y : α) : mixL false (c x) (c y) = c y := h.mix false x y
theorem Cod.one (h : Cod c sz) (x z : α) : chain (c z) 0 [c x] 0 = c x := h.mixT x z
theorem Cod.app1 (h : Cod c sz) (l junk : List α) (x z : α) {n N : Nat} (hn : n = l.length) (hN : N = l.length + 1) :
    OLe (some (.arr sz N fun j => mixL (decide (j < n)) (lsF c (l ++ junk) j) (chain (c z) 0 [c x] (j - n)))) (some (.arr sz (l ++ [x]).length (lsF c (l ++ [x])))) := by
  subst hn; subst hN
  refine h.row (by simp) fun e he => ?_
  by_cases hl : e < l.length
  · simp only [decide_eq_true hl, lsF, Nat.zero_add, getD_app hl]
    have : chain (c z) 0 [c x] (e - l.length) = c x := by
      rw [show e - l.length = 0 by omega]; exact h.one x z
    rw [this]
    exact h.mixT _ _
  · have he' : e = l.length := by omega
    subst he'
    simp only [decide_eq_false hl, lsF, Nat.zero_add, Nat.sub_self, getD_app' (Nat.le_refl _)]
    rw [h.one]
    exact h.mixF _ _

theorem Cod.app0 (h : Cod c sz) (l : List α) (x z : α) {n N : Nat} (hn : n = l.length) (hN : N = l.length + 1) :
    OLe (some (.arr sz N fun j => mixL (decide (j < n)) (lsF c l j) (chain (c z) 0 [c x] (j - n)))) (some (.arr sz (l ++ [x]).length (lsF c (l ++ [x])))) := by
  have := h.app1 l [] x z hn hN
  rw [List.append_nil] at this
  exact this
theorem lsF_at (c : α → List AV) (l : List α) (j : Nat) : lsF c l j = c (l.getD j default) := rfl
theorem Cod.clone (h : Cod c sz) (l junk : List α) (z : α) {N : Nat} (hn : N = l.length) :
    OLe (some (.arr sz N fun j => mixL (decide (j < 0)) (chain (c z) 0 [] j) (lsF c (l ++ junk) j))) (some (.arr sz l.length (lsF c l))) := by
  refine h.row hn fun e he => ?_
  rw [hn] at he
  simp only [Nat.zero_add, lsF_at, getD_app he]
  rw [decide_eq_false (Nat.not_lt_zero e)]
  exact h.mixF _ _
theorem getD_eraseIdx {l : List α} {i j : Nat} : (l.eraseIdx i).getD j default = if j < i then l.getD j default else l.getD (j + 1) default := by
  rw [List.getD_eq_getElem?_getD, List.getElem?_eraseIdx]
  split <;> rw [List.getD_eq_getElem?_getD]
theorem Cod.mixE (h : Cod c sz) {b : Bool} {x y : List AV} {u v : α} (hx : x = c u) (hy : y = c v) : mixL b x y = c (bif b then u else v) := by rw [hx, hy, h.mix]
theorem Cod.del (h : Cod c sz) (l junk : List α) (z : α) {i n : Nat} (hn : n = l.length) (hi : i < l.length) :
    OLe (some (.arr sz (l ++ junk).length fun j => mixL (decide (i + (n - (i + 1)) ≤ j) && decide (j < i + (n - (i + 1)) + (n - (i + (n - (i + 1)))))) (c z)
      (mixL (decide (i ≤ j) && decide (j < i + (n - (i + 1)))) (lsF c (l ++ junk) (i + 1 + (j - i))) (lsF c (l ++ junk) j))))
      (some (.arr sz (l.eraseIdx i ++ (z :: junk)).length (lsF c (l.eraseIdx i ++ (z :: junk))))) := by
  subst hn
  have hle : (l.eraseIdx i).length = l.length - 1 := List.length_eraseIdx_of_lt hi
  refine h.row (by simp [hle]; omega) fun e he => ?_
  simp only [lsF_at, h.mix]
  refine congrArg c ?_
  simp only [cond_eq_ite, Bool.and_eq_true, decide_eq_true_eq]
  rcases Nat.lt_trichotomy e (l.length - 1) with h1 | h1 | h1
  · rw [if_neg (by omega), getD_app (l := l.eraseIdx i) (by omega), getD_eraseIdx]
    by_cases h2 : i ≤ e
    · rw [if_pos (by omega), if_neg (by omega), show i + 1 + (e - i) = e + 1 by omega, getD_app (by omega)]
    · rw [if_neg (by omega), if_pos (by omega), getD_app (by omega)]
  · rw [if_pos (by omega), getD_app' (l := l.eraseIdx i) (by omega), hle, h1, Nat.sub_self]
    rfl
  · rw [if_neg (by omega), if_neg (by omega), getD_app' (l := l.eraseIdx i) (by omega), getD_app' (by omega), hle]
    rw [show e - (l.length - 1) = (e - l.length) + 1 by omega]
    rfl
theorem chain_nil (z : List AV) (i k : Nat) : chain z i [] k = z := rfl
theorem Cod.chain1 (h : Cod c sz) (z x : α) (k : Nat) : chain (c z) 0 [c x] k = c (bif Nat.beq k 0 then x else z) := h.mix _ x z
theorem Cod.app2 (h : Cod c sz) (l junk : List α) (x z z' : α) {n N : Nat} (hn : n = l.length) (hN : N = l.length + 1) :
    OLe (some (.arr sz N fun j => mixL (decide (j < n)) (mixL (decide (j < 0)) (chain (c z') 0 [] j) (lsF c (l ++ junk) j)) (chain (c z) 0 [c x] (j - n)))) (some (.arr sz (l ++ [x]).length (lsF c (l ++ [x])))) := by
  subst hn; subst hN
  refine h.row (by simp) fun e he => ?_
  simp only [lsF_at, chain_nil, h.chain1, h.mix]
  refine congrArg c ?_
  rw [decide_eq_false (Nat.not_lt_zero e)]
  simp only [cond_false]
  by_cases hl : e < l.length
  · rw [decide_eq_true hl, getD_app hl, getD_app hl]; rfl
  · have he' : e = l.length := by omega
    subst he'
    rw [decide_eq_false hl, getD_app' (l := l) (r := [x]) (Nat.le_refl _), Nat.sub_self]; rfl
theorem Cod.del2 (h : Cod c sz) (l junk : List α) (z : α) {i N : Nat} (hi : i < l.length) (hN : N = l.length - 1) :
    OLe (some (.arr sz N fun j => mixL (decide (j < i)) (mixL (decide (j < 0)) (chain (c z) 0 [] j) (lsF c (l ++ junk) j)) (lsF c (l ++ junk) (i + 1 + (j - i))))) (some (.arr sz (l.eraseIdx i).length (lsF c (l.eraseIdx i)))) := by
  subst hN
  have hle : (l.eraseIdx i).length = l.length - 1 := List.length_eraseIdx_of_lt hi
  refine h.row hle.symm fun e he => ?_
  simp only [lsF_at, chain_nil, h.mix]
  refine congrArg c ?_
  rw [decide_eq_false (Nat.not_lt_zero e), getD_eraseIdx]
  simp only [cond_false]
  by_cases hl : e < i
  · rw [decide_eq_true hl, getD_app (by omega), if_pos hl]; rfl
  · rw [decide_eq_false hl, if_neg hl, show i + 1 + (e - i) = e + 1 by omega, getD_app (l := l) (r := junk) (j := e + 1) (by omega)]; rfl
theorem cl_false {p : Prop} : cl p = false ↔ ¬ p := by
  rw [← Bool.not_eq_true, cl_iff]
theorem sat_brT {β : Type} {t e : Tree β} {Q : β → Prop} : (Tree.br true t e).sat Q = t.sat Q := by simp
theorem sat_brF {β : Type} {t e : Tree β} {Q : β → Prop} : (Tree.br false t e).sat Q = e.sat Q := by simp
theorem sat_chkT {β : Type} {t : Tree β} {Q : β → Prop} : (Tree.chk true t).sat Q = t.sat Q := by simp
end
section
variable {P : Program} {Γ : Nat → AV} {X : Type} {S : X → List AV × Heap} {pre : X → Prop} {O : X → Out} {μ : X → Nat} {n : Nat} {o : Out} {fr : List AV} {H : Heap}
theorem owesN : OwesA S pre O μ n o ⟨.normal, fr, H⟩ = ∃ x', LeL fr (S x').1 ∧ LeH H (S x').2 ∧ pre x' ∧ O x' = o ∧ μ x' < n := rfl
theorem owesX {id : Nat} : OwesA S pre O μ n o ⟨.exit id, fr, H⟩ = (.exit id = o.ex ∧ LeL fr o.fr ∧ LeH H o.H) := rfl
theorem owesR : OwesA S pre O μ n o ⟨.ret, fr, H⟩ = (.ret = o.ex ∧ LeL fr o.fr ∧ LeH H o.H) := rfl
theorem RoundOK.of {m N k : Nat} {b : Code} {live : List Nat} {nils : List (Nat × TypeId)} {s : List AV × Heap} {Q : Out → Prop} {T : List (CT P Γ)} {L : Nat → LSpec} {ip : Bool}
    (hL : ∀ (j : Nat) (b' : Code), (loopBodies b)[j]? = some b' → LoopOK P Γ m N b' (L (k + j))) {t : Tree Out} (e : roundE T L ip m k b live nils N s.1 s.2 = t) (h : t.sat Q) : RoundOK P Γ m N k b live nils s Q :=
  ⟨T, L, ip, hL, by rw [e]; exact h⟩
end
def lArg {α : Type} [Inhabited α] (c : α → List AV) (sz : Nat) : Option (List α) → AV
  | none => .v (.slice none 0 0)
  | some l => .sl sz l.length (lsF c l)
theorem V0.slCongr {σ : Store} {sz m m' : Nat} {f f' : Nat → List AV} {v : Value} (h : V0 σ (.sl sz m f) v) (hm : m' = m) (he : ∀ e, e < m → f' e = f e) (hl : ∀ e, (f' e).length = sz) (hk : mkd (f' m') = false) : V0 σ (.sl sz m' f') v := by
  subst hm
  cases h with
  | sl _ _ _ ad cap ys hs hn _ hm ho hv => exact .sl sz _ f' ad cap ys hs hn hl (fun e j c h1 h2 => hm e j c h1 (he e h1 ▸ h2)) (fun e j c h1 h2 => ho e j c h1 (he e h1 ▸ h2)) (fun e j c h1 h2 => hv e j c h1 (he e h1 ▸ h2))
  | slnil _ _ _ A cap _ hn ha => exact .slnil sz _ f' A cap hl hn (fun _ => hk)
section
open Go.ChangeShapes
variable {H : Type} {enc : TypeId × Value → H} {P : Program} {w : World} {base : Nat} {sp : Nat → Bool} {held : Bool}
theorem open_slO {α : Type} [Inhabited α] (D : Nat) (cells : α → List Value) (c : α → List AV) {ks : List Cel} {sz : Nat} (hsz : ks.length = sz) (hcl : ∀ a, (cells a).length = sz) (hc0 : ∀ a, (cells a).map AV.v = c a) (hdec : ∀ vs, GoodVs ks vs → ∃ a, vs = cells a) (hm : mkd (c default) = false)
    {t e : TypeId} {v : Value} {r : Reach} {b0 : Nat} {d : DataW H} {ps : List MemPlace} (ht : P.underlying t = some (.slice e)) (hk : ckT P D e = some ks) (hc : P.cellsOf e = sz)
    (hval : Value.okWide P w r b0 t v) (h : DataW.Trod enc P w base sp held t v d ps) :
    ∃ x : Option (List α), V0 (σof w) (lArg c sz x) v ∧ ∀ l, x = some l → ∀ i, i < l.length → GoodVs ks (cells (l.getD i default)) := by
  rcases open_slG D cells hsz hcl hdec ht hk hc hval h with rfl | ⟨m, g, h1, h2⟩
  · exact ⟨none, .v _, fun l h => by simp at h⟩
  · have hg : ∀ e, e < m → ((List.range m).map g).getD e default = g e := fun e he => by
      rw [List.getD_eq_getElem?_getD, List.getElem?_map, List.getElem?_range he]; rfl
    refine ⟨some ((List.range m).map g), h1.slCongr (by simp) (fun e he => ?_) (fun e => by show (c _).length = sz; rw [← hc0]; simp [hcl]) (by rw [lsF_at, List.getD_eq_getElem?_getD, List.getElem?_eq_none (Nat.le_refl _)]; exact hm), fun l hl i hi => ?_⟩
    · rw [lsF_at, hg e he, hc0]
    · simp only [Option.some.injEq] at hl
      subst hl
      have hi' : i < m := by simpa using hi
      rw [hg i hi']
      exact h2 i hi'
theorem open_slL {α : Type} [Inhabited α] (D : Nat) (cells : α → List Value) (c : α → List AV) {ks : List Cel} {sz : Nat} (hsz : ks.length = sz) (hcl : ∀ a, (cells a).length = sz) (hc0 : ∀ a, (cells a).map AV.v = c a) (hdec : ∀ vs, GoodVs ks vs → ∃ a, vs = cells a) (hm : mkd (c default) = false)
    {t e : TypeId} {v : Value} {r : Reach} {b0 : Nat} {d : DataW H} {ps : List MemPlace} (ht : P.underlying t = some (.slice e)) (hk : ckT P D e = some ks) (hc : P.cellsOf e = sz)
    (hval : Value.okWide P w r b0 t v) (h : DataW.Trod enc P w base sp held t v d ps) :
    ∃ l : List α, V0 (σof w) (.sl sz l.length (lsF c l)) v ∧ ∀ i, i < l.length → GoodVs ks (cells (l.getD i default)) := by
  obtain ⟨x, h1, h2⟩ := open_slO D cells c hsz hcl hc0 hdec hm ht hk hc hval h
  cases x with
  | none =>
    cases h1
    exact ⟨[], .slnil sz 0 _ none 0 (fun e => by show (c _).length = sz; rw [← hc0]; simp [hcl]) rfl (fun _ => hm), fun i hi => absurd hi (Nat.not_lt_zero i)⟩
  | some l => exact ⟨l, h1, h2 l rfl⟩
end
theorem failOK {P : Program} {Γ : Nat → AV} {m N : Nat} {c : Code} {L : Nat → LSpec} (h : ∀ j, ∀ vals H, (L j).spec vals H = .fail) : ∀ (j : Nat) (b : Code), (loopBodies c)[j]? = some b → LoopOK P Γ m N b (L j) := fun j b _ vals H o ho => by
  rw [h j] at ho; simp [Tree.get] at ho
section
variable {P : Program} {Γ : Nat → AV}
theorem Contract.res {f : FuncId} {args : List AV} {Hin : List Blk} {r r' : Res} (h : Contract P Γ f args Hin r) (hv : AV.le r.val r'.val) (hH : LeH (r.heap Hin) (r'.heap Hin)) : Contract P Γ f args Hin r' := by
  intro σ φ w vals hG hV hn hR
  exact (h σ φ w vals hG hV hn hR).mono fun e w' ⟨σ', φ', v, e1, e2, e3, e4, e5⟩ => ⟨σ', φ', v, e1, hv.v e2, e3.le (fun i b' hb => hH.get i b' hb), e4, fun k hk => e5 k (by rw [hH.len]; exact hk)⟩
noncomputable def cloneSpecL {α : Type} [Inhabited α] (c : α → List AV) (sz : Nat) (args : List AV) (Hin : List Blk) : Tree Res := match args with
  | [.hs i e n] => match Hin with
    | [.arr sz' N f] => .chk (Nat.beq i 0 && Nat.beq e 0 && Nat.beq sz' sz) (.chk (cl (n ≤ 1000000000 ∧ ∃ l junk : List α, n = l.length ∧ N = (l ++ junk).length ∧ ∀ e, f e = c ((l ++ junk).getD e default))) (.leaf { val := .hs 1 0 n, new := [.arr sz n f] }))
    | _ => .fail
  | _ => .fail
noncomputable def CT.clone {α : Type} [Inhabited α] {c : α → List AV} {sz : Nat} (hc : Cod c sz) (f : FuncId) (h : ∀ l junk : List α, l.length ≤ 1000000000 → Answers P Γ f [.hs 0 0 l.length] [.arr sz (l ++ junk).length (lsF c (l ++ junk))] (.hs 1 0 l.length) [some (.arr sz (l ++ junk).length (lsF c (l ++ junk)))] [.arr sz l.length (lsF c l)]) : CT P Γ where
  f := f
  spec := cloneSpecL c sz
  enters := (h [] [] (by simp)).enters
  ok := fun args Hin r hr => by
    unfold cloneSpecL at hr
    split at hr
    · split at hr
      · obtain ⟨h1, hr⟩ := Tree.chk_get hr
        obtain ⟨h2, hr⟩ := Tree.chk_get hr
        obtain rfl := Tree.leaf_get hr
        obtain ⟨hn, l, junk, rfl, rfl, hf⟩ := cl_iff.1 h2
        simp only [Bool.and_eq_true] at h1
        obtain rfl := Nat.eq_of_beq_eq_true h1.1.1
        obtain rfl := Nat.eq_of_beq_eq_true h1.1.2
        obtain rfl := Nat.eq_of_beq_eq_true h1.2
        obtain rfl : _ = lsF c (l ++ junk) := funext hf
        refine (h l junk hn).ok.res (.refl _) ⟨OLe.refl _, ?_, trivial⟩
        exact OLe.arr rfl (fun e he => by rw [lsF_at, lsF_at, getD_app he]) (fun e => hc.len _)
      · simp [Tree.get] at hr
    · simp [Tree.get] at hr
end
theorem twoLoops {P : Program} {Γ : Nat → AV} {m N : Nat} {c b b' : Code} {L : Nat → LSpec} (h : loopBodies c = [b, b']) (h0 : LoopOK P Γ m N b (L 0)) (h1 : LoopOK P Γ m N b' (L 1)) : ∀ (j : Nat) (b : Code), (loopBodies c)[j]? = some b → LoopOK P Γ m N b (L j) := by
  intro j b hj
  rw [h] at hj
  match j, hj with
  | 0, hj => simp at hj; subst hj; exact h0
  | 1, hj => simp at hj; subst hj; exact h1
  | j + 2, hj => simp at hj
theorem threeLoops {P : Program} {Γ : Nat → AV} {m N : Nat} {c b b' b2 : Code} {L : Nat → LSpec} (h : loopBodies c = [b, b', b2]) (h0 : LoopOK P Γ m N b (L 0)) (h1 : LoopOK P Γ m N b' (L 1)) (h2 : LoopOK P Γ m N b2 (L 2)) : ∀ (j : Nat) (b : Code), (loopBodies c)[j]? = some b → LoopOK P Γ m N b (L j) := by
  intro j b hj
  rw [h] at hj
  match j, hj with
  | 0, hj => simp at hj; subst hj; exact h0
  | 1, hj => simp at hj; subst hj; exact h1
  | 2, hj => simp at hj; subst hj; exact h2
  | j + 3, hj => simp at hj
section
variable {P : Program} {Γ : Nat → AV}
noncomputable def parSpec {X : Type} (ext : List AV → List Blk → Option X) (pre : X → Prop) (A : X → List AV) (H0 : X → List Blk) (v : X → AV) (H1 : X → List (Option Blk)) (new : X → List Blk) (args : List AV) (Hin : List Blk) : Tree Res :=
  match ext args Hin with
  | some x => .chk (cl (pre x ∧ LeL args (A x) ∧ LeH (Hin.map some) ((H0 x).map some))) (.leaf { val := v x, upd := (H1 x).map some, new := new x })
  | none => .fail
noncomputable def CT.par {X : Type} (f : FuncId) (ext : List AV → List Blk → Option X) (pre : X → Prop) (A : X → List AV) (H0 : X → List Blk) (v : X → AV) (H1 : X → List (Option Blk)) (new : X → List Blk)
    (enters : ∀ (args : Array Value) (w : World), (callFunc f args).run P w = .ok (.enter f args) w) (h : ∀ x, pre x → Answers P Γ f (A x) (H0 x) (v x) (H1 x) (new x)) : CT P Γ where
  f := f
  spec := parSpec ext pre A H0 v H1 new
  enters := enters
  ok := fun args Hin r hr => by
    unfold parSpec at hr
    split at hr
    · rename_i x hx
      obtain ⟨h1, hr⟩ := Tree.chk_get hr
      obtain ⟨hp, hv, hH⟩ := cl_iff.1 h1
      exact (CT.at f (h x hp)).ok args Hin r (by
        show (atSpec (A x) (H0 x) (v x) (H1 x) (new x) args Hin).get = some r
        unfold atSpec
        rw [cl_iff.2 ⟨hv, hH⟩]
        exact hr)
    · simp [Tree.get] at hr
end
theorem sat_brN {β : Type} {c : Bool} {t e : Tree β} {Q : β → Prop} : (Tree.br c t e).sat Q = ((c = true → t.sat Q) ∧ (¬ c = true → e.sat Q)) := by
  cases c <;> simp
theorem notT {b : Bool} : ((!b) = true) = ¬ (b = true) := by cases b <;> simp
end Go.Eng

namespace Go.Eng
open Go
section
variable {P : Program} {Γ : Nat → AV}
theorem getHmap (l : List Blk) (k : Nat) : getH (l.map some) k = l[k]? := by
  unfold getH
  rw [List.getElem?_map]
  cases l[k]? <;> rfl
theorem Contract.box {f : FuncId} {args : List AV} {Hin : List Blk} {i c sz : Nat} {cs : List AV} {g : Nat → List AV} {r r' : Res} (hg : Hin[i]? = some (.row cs)) (hc : cs[c]? = some (.v (.slice none 0 0))) (hz : ∀ e, (g e).length = sz)
    (h : Contract P Γ f args (Hin.set i (.row (cs.set c (.hs Hin.length 0 0))) ++ [.arr sz 0 g]) r) (hv : r'.val = r.val) (hh : r'.heap Hin = r.heap (Hin.set i (.row (cs.set c (.hs Hin.length 0 0))) ++ [.arr sz 0 g])) :
    Contract P Γ f args Hin r' := by
  intro σ φ w vals hG hV hn hR
  have hnb := hn Hin.length (Nat.le_refl _)
  let L0 : Lc := ⟨0, 0, sz, 0, 0, true⟩
  have hle := fresh_le hnb L0
  have hB : (fun b => ∃ k L, φ k = some L ∧ L.virt = false ∧ L.b = b) = (fun b => ∃ k L, fresh φ Hin.length L0 k = some L ∧ L.virt = false ∧ L.b = b) := by
    funext b
    refine propext ⟨fun ⟨k, L, h1, h2, h3⟩ => ⟨k, L, hle k L h1, h2, h3⟩, fun ⟨k, L, h1, h2, h3⟩ => ?_⟩
    by_cases e : k = Hin.length
    · subst e
      rw [fresh_at] at h1
      cases h1
      simp [L0] at h2
    · simp only [fresh, e, if_false] at h1
      exact ⟨k, L, h1, h2, h3⟩
  have hR1 := hR.virtual (L := L0) hnb rfl (some (.arr sz 0 g)) (fun b' hb' => by simp at hb'; subst hb'; exact hz) (fun _ _ _ h' => by cases h'; rfl)
  have hg1 : updG (getH (Hin.map some)) Hin.length (some (Blk.arr sz 0 g)) = getH (Hin.map some ++ [some (Blk.arr sz 0 g)]) := by
    have := fun j => getH_append (H := Hin.map some) (bs := [Blk.arr sz 0 g]) (k := j)
    funext j
    have h1 := this j
    rw [List.length_map] at h1
    exact h1.symm
  rw [hg1] at hR1
  have hil : i < Hin.length := (List.getElem?_eq_some_iff.1 hg).1
  have hg2 : getH (Hin.map some ++ [some (Blk.arr sz 0 g)]) i = some (.row cs) := by
    rw [← hg1]
    have : i ≠ Hin.length := by omega
    simp only [updG, this, if_false]
    rw [getHmap, hg]
  have hR2 := hR1.setRow (x' := .hs Hin.length 0 0) hg2 hc (fun y hy => by
    have := hy.v_eq
    subst this
    exact .hsnil none fresh_at (Nat.le_refl 0) rfl)
  have hH : (Hin.map some ++ [some (Blk.arr sz 0 g)]).set i (some (.row (cs.set c (.hs Hin.length 0 0)))) = (Hin.set i (.row (cs.set c (.hs Hin.length 0 0))) ++ [Blk.arr sz 0 g]).map some := by
    rw [List.set_append_left _ _ (by simpa using hil), List.map_append, List.map_set]
    rfl
  rw [hH] at hR2
  have hlen : (Hin.set i (.row (cs.set c (.hs Hin.length 0 0))) ++ [Blk.arr sz 0 g]).length = Hin.length + 1 := by simp
  rw [hB] at hR2 ⊢
  refine (h σ (fresh φ Hin.length L0) w vals hG ⟨hV.1, fun j a y ha hy => (hV.2 j a y ha hy).mono (Store.le_refl σ) hle⟩ (fun k hk => ?_) hR2).mono fun e w' ⟨σ', φ', v, e1, e2, e3, e4, e5⟩ => ⟨σ', φ', v, e1, by rw [hv]; exact e2, by rw [hh]; exact e3, fun k hk => ?_, by rw [hh]; exact e5⟩
  · rw [hlen] at hk
    have : k ≠ Hin.length := by omega
    simp only [fresh, this, if_false]
    exact hn k (by omega)
  · rw [e4 k (by rw [hlen]; omega)]
    have : k ≠ Hin.length := by omega
    simp only [fresh, this, if_false]
theorem Answers.box {f : FuncId} {args : List AV} {Hin : List Blk} (i c : Nat) {sz : Nat} {cs : List AV} {g : Nat → List AV} {v : AV} {H1 : List (Option Blk)} {b : Blk} {new : List Blk} (hg : Hin[i]? = some (.row cs)) (hc : cs[c]? = some (.v (.slice none 0 0))) (hz : ∀ e, (g e).length = sz) (hl : H1.length = Hin.length)
    (h : Answers P Γ f args (Hin.set i (.row (cs.set c (.hs Hin.length 0 0))) ++ [.arr sz 0 g]) v (H1 ++ [some b]) new) : Answers P Γ f args Hin v H1 (b :: new) where
  len := hl
  enters := h.enters
  ok := h.ok.box hg hc hz rfl (by
    show outOf Hin (H1.map some) ++ _ = outOf _ ((H1 ++ [some b]).map some) ++ _
    rw [outOf_all _ _ hl, outOf_all _ _ (by simp [hl])]
    simp)
end
section
open Go.ChangeShapes Go.RowKit
variable {H : Type} {enc : TypeId × Value → H} {P : Program} {w : World} {base : Nat} {spare : Nat → Bool} {held : Bool}
theorem trodAll_five {t0 t1 t2 t3 t4 : TypeId} {args : Array Value} {ds : List (DataW H)} {ps : List MemPlace} (h : DataW.TrodAll enc P w base spare held [t0, t1, t2, t3, t4] args.toList ds ps) :
    ∃ v0 v1 v2 v3 v4 d0 d1 d2 d3 d4 p0 p1 p2 p3 p4, args = #[v0, v1, v2, v3, v4] ∧ ds = [d0, d1, d2, d3, d4] ∧ ps = p0 ++ p1 ++ p2 ++ p3 ++ p4 ∧ DataW.Trod enc P w base spare held t0 v0 d0 p0 ∧ DataW.Trod enc P w base spare held t1 v1 d1 p1 ∧
      DataW.Trod enc P w base spare held t2 v2 d2 p2 ∧ DataW.Trod enc P w base spare held t3 v3 d3 p3 ∧ DataW.Trod enc P w base spare held t4 v4 d4 p4 := by
  obtain ⟨v0, s0, d0, e0, p0, q0, hargs, rfl, rfl, h0, r0⟩ := trodAll_cons h
  obtain ⟨v1, s1, d1, e1, p1, q1, rfl, rfl, rfl, h1, r1⟩ := trodAll_cons r0
  obtain ⟨v2, s2, d2, e2, p2, q2, rfl, rfl, rfl, h2, r2⟩ := trodAll_cons r1
  obtain ⟨v3, s3, d3, e3, p3, q3, rfl, rfl, rfl, h3, r3⟩ := trodAll_cons r2
  obtain ⟨v4, s4, d4, e4, p4, q4, rfl, rfl, rfl, h4, r4⟩ := trodAll_cons r3
  obtain ⟨rfl, rfl, rfl⟩ := trodAll_nil r4
  exact ⟨v0, v1, v2, v3, v4, d0, d1, d2, d3, d4, p0, p1, p2, p3, p4, by cases args; simp_all, rfl, by simp, h0, h1, h2, h3, h4⟩
end
end Go.Eng

namespace Go.Eng
open Go
section
open Go.ChangeShapes Go.RowKit
variable {H : Type} {enc : TypeId × Value → H} {P : Program} {w : World} {base : Nat} {spare : Nat → Bool} {held : Bool}
theorem trodAll_six {t0 t1 t2 t3 t4 t5 : TypeId} {args : Array Value} {ds : List (DataW H)} {ps : List MemPlace} (h : DataW.TrodAll enc P w base spare held [t0, t1, t2, t3, t4, t5] args.toList ds ps) :
    ∃ v0 v1 v2 v3 v4 v5 d0 d1 d2 d3 d4 d5 p0 p1 p2 p3 p4 p5, args = #[v0, v1, v2, v3, v4, v5] ∧ ds = [d0, d1, d2, d3, d4, d5] ∧ ps = p0 ++ p1 ++ p2 ++ p3 ++ p4 ++ p5 ∧ DataW.Trod enc P w base spare held t0 v0 d0 p0 ∧ DataW.Trod enc P w base spare held t1 v1 d1 p1 ∧
      DataW.Trod enc P w base spare held t2 v2 d2 p2 ∧ DataW.Trod enc P w base spare held t3 v3 d3 p3 ∧ DataW.Trod enc P w base spare held t4 v4 d4 p4 ∧ DataW.Trod enc P w base spare held t5 v5 d5 p5 := by
  obtain ⟨v0, s0, d0, e0, p0, q0, hargs, rfl, rfl, h0, r0⟩ := trodAll_cons h
  obtain ⟨v1, s1, d1, e1, p1, q1, rfl, rfl, rfl, h1, r1⟩ := trodAll_cons r0
  obtain ⟨v2, s2, d2, e2, p2, q2, rfl, rfl, rfl, h2, r2⟩ := trodAll_cons r1
  obtain ⟨v3, s3, d3, e3, p3, q3, rfl, rfl, rfl, h3, r3⟩ := trodAll_cons r2
  obtain ⟨v4, s4, d4, e4, p4, q4, rfl, rfl, rfl, h4, r4⟩ := trodAll_cons r3
  obtain ⟨v5, s5, d5, e5, p5, q5, rfl, rfl, rfl, h5, r5⟩ := trodAll_cons r4
  obtain ⟨rfl, rfl, rfl⟩ := trodAll_nil r5
  exact ⟨v0, v1, v2, v3, v4, v5, d0, d1, d2, d3, d4, d5, p0, p1, p2, p3, p4, p5, by cases args; simp_all, rfl, by simp, h0, h1, h2, h3, h4, h5⟩
end
end Go.Eng

namespace Go.Eng
open Go
section
variable {P : Program} {Γ : Nat → AV}
def ofS : List AV → List Blk → Option ByteArray
  | [.v (.string s)], [] => some s
  | _, _ => none
def ofSI : List AV → List Blk → Option (ByteArray × Int)
  | [.v (.string s), .v (.int _ n)], [] => some (s, n)
  | _, _ => none
def ofSS : List AV → List Blk → Option (ByteArray × ByteArray)
  | [.v (.string s), .v (.string t)], [] => some (s, t)
  | _, _ => none
def ofI : List AV → List Blk → Option Int
  | [.v (.int _ n)], [] => some n
  | _, _ => none
noncomputable def CT.oS (f : FuncId) {fn : Func} (hf : P.funcs[f]? = some fn) (hb : fn.body.isSome = true) (hn : (fn.name == "runtime.NumGoroutine") = false) (pre : ByteArray → Prop) (g : ByteArray → AV) (new : ByteArray → List Blk)
    (h : ∀ s, pre s → Answers P Γ f [.v (.string s)] [] (g s) [] (new s)) : CT P Γ :=
  CT.par f ofS pre (fun s => [.v (.string s)]) (fun _ => []) g (fun _ => []) new (callFunc_enters hf hb hn) h
noncomputable def CT.oSI (f : FuncId) {fn : Func} (hf : P.funcs[f]? = some fn) (hb : fn.body.isSome = true) (hn : (fn.name == "runtime.NumGoroutine") = false) (pre : ByteArray × Int → Prop) (g : ByteArray × Int → AV) (new : ByteArray × Int → List Blk)
    (h : ∀ x : ByteArray × Int, pre x → Answers P Γ f [.v (.string x.1), .v (.int .i64 x.2)] [] (g x) [] (new x)) : CT P Γ :=
  CT.par f ofSI pre (fun x => [.v (.string x.1), .v (.int .i64 x.2)]) (fun _ => []) g (fun _ => []) new (callFunc_enters hf hb hn) h
noncomputable def CT.oSS (f : FuncId) {fn : Func} (hf : P.funcs[f]? = some fn) (hb : fn.body.isSome = true) (hn : (fn.name == "runtime.NumGoroutine") = false) (pre : ByteArray × ByteArray → Prop) (g : ByteArray × ByteArray → AV) (new : ByteArray × ByteArray → List Blk)
    (h : ∀ x : ByteArray × ByteArray, pre x → Answers P Γ f [.v (.string x.1), .v (.string x.2)] [] (g x) [] (new x)) : CT P Γ :=
  CT.par f ofSS pre (fun x => [.v (.string x.1), .v (.string x.2)]) (fun _ => []) g (fun _ => []) new (callFunc_enters hf hb hn) h
noncomputable def CT.oI (f : FuncId) (k : IntKind) {fn : Func} (hf : P.funcs[f]? = some fn) (hb : fn.body.isSome = true) (hn : (fn.name == "runtime.NumGoroutine") = false) (pre : Int → Prop) (g : Int → AV) (new : Int → List Blk)
    (h : ∀ n, pre n → Answers P Γ f [.v (.int k n)] [] (g n) [] (new n)) : CT P Γ :=
  CT.par f ofI pre (fun n => [.v (.int k n)]) (fun _ => []) g (fun _ => []) new (callFunc_enters hf hb hn) h
theorem tup2 {a b a' b' : AV} (h1 : AV.le a a') (h2 : AV.le b b') : AV.le (.tup [a, b]) (.tup [a', b']) := le_tup ⟨h1, h2, trivial⟩
theorem tup3 {a b c a' b' c' : AV} (h1 : AV.le a a') (h2 : AV.le b b') (h3 : AV.le c c') : AV.le (.tup [a, b, c]) (.tup [a', b', c']) := le_tup ⟨h1, h2, h3, trivial⟩
theorem leI {k : IntKind} {a b : Int} (h : a = b) : AV.le (.v (.int k a)) (.v (.int k b)) := by rw [h]; exact .refl _
theorem leS {a b : ByteArray} (h : a = b) : AV.le (.v (.string a)) (.v (.string b)) := by rw [h]; exact .refl _
theorem leB {a b : Bool} (h : a = b) : AV.le (.v (.bool a)) (.sb b) := by rw [h]; exact .bs _
theorem leB' {a b : Bool} (h : a = b) : AV.le (.sb a) (.sb b) := by rw [h]; exact .refl _
end
end Go.Eng
namespace Go.Eng
open Go
theorem wC {β : Type} {c : Bool} {t : Tree β} {Q : β → Prop} (h : c = true) (k : t.sat Q) : (Tree.chk c t).sat Q := ⟨h, k⟩
theorem wT {β : Type} {c : Bool} {t e : Tree β} {Q : β → Prop} (h : c = true) (k : t.sat Q) : (Tree.br c t e).sat Q := by subst h; exact ⟨fun _ => k, fun h => by cases h⟩
theorem wS {β : Type} {c : Bool} {t e : Tree β} {Q : β → Prop} (h : c = true → t.sat Q) (k : ¬ c = true → e.sat Q) : (Tree.br c t e).sat Q := ⟨h, fun h' => k (by rw [h']; decide)⟩
theorem wF {β : Type} {c : Bool} {t e : Tree β} {Q : β → Prop} (h : ¬ c = true) (k : e.sat Q) : (Tree.br c t e).sat Q := ⟨fun h' => absurd h' h, fun _ => k⟩
theorem condIT {c a b : Bool} : ((bif c then a else b) = true) = ((c = true ∧ a = true) ∨ (¬ (c = true) ∧ b = true)) := by
  cases c <;> simp
theorem W1 : (∀ p : Prop, cl p = true ↔ p) ∧ (∀ x : AV, AV.le x x = True) ∧ (∀ x : AV, AV.le x .any = True) ∧ (∀ x : Option Blk, OLe x x = True) ∧
    (∀ (x : Option Blk) (xs : Heap) (y : Option Blk) (ys : Heap), LeH (x :: xs) (y :: ys) = (OLe x y ∧ LeH xs ys)) ∧ (LeH [] [] = True) ∧
    (∀ (x : AV) (xs : List AV) (y : AV) (ys : List AV), LeL (x :: xs) (y :: ys) = (AV.le x y ∧ LeL xs ys)) ∧ (LeL [] [] = True) ∧ (∀ p : Prop, (p ∧ True) = p) ∧ (∀ p : Prop, (True ∧ p) = p) ∧
    (∀ a b : Bool, ((a && b) = true) = (a = true ∧ b = true)) ∧ (∀ a b : Bool, ((a || b) = true) = (a = true ∨ b = true)) ∧ (∀ (p : Prop) [Decidable p], (decide p = true) = p) ∧
    (∀ b : Bool, ((!b) = true) = ¬ (b = true)) ∧ (∀ c b : Bool, (bif c then true else b) = (c || b)) ∧ (∀ c b : Bool, (bif c then b else false) = (c && b)) ∧
    (∀ n m : Nat, (Nat.blt n m = true) = (n < m)) ∧ (∀ n : Nat, 0 + n = n) ∧ (∀ n : Nat, Int.toNat (n : Int) = n) ∧ (!true) = false ∧ (!false) = true ∧ ((false = true) = False) ∧
    ((¬ True) = False) ∧ ((¬ False) = True) ∧ (∀ p : Prop, (p ∨ False) = p) ∧ (∀ p : Prop, (False ∨ p) = p) ∧ (∀ p : Prop, (p ∨ True) = True) ∧ (∀ p : Prop, (True ∨ p) = True) ∧
    (∀ p : Prop, (p ∧ False) = False) ∧ (∀ p : Prop, (False ∧ p) = False) ∧ (∀ c a b : Bool, ((bif c then a else b) = true) = ((c = true ∧ a = true) ∨ (¬ (c = true) ∧ b = true))) := by
  refine ⟨fun p => cl_iff, fun x => eq_true (.refl x), fun x => eq_true (.any x), fun x => eq_true (OLe.refl x), fun x xs y ys => rfl, rfl, fun x xs y ys => rfl, rfl, and_true, true_and, fun a b => Bool.and_eq_true a b, fun a b => Bool.or_eq_true a b, fun p _ => decide_eq_true_eq, fun b => notT, fun c b => Bool.cond_true_left c b, fun c b => Bool.cond_false_right c b, fun n m => Nat.blt_eq, Nat.zero_add, Int.toNat_natCast, rfl, rfl, Bool.false_eq_true, not_true_eq_false, not_false_eq_true, or_false, false_or, or_true, true_or, and_false, false_and, fun c a b => condIT⟩
theorem W2 : ((true = false) = False) ∧ (∀ p : Prop, (False → p) = True) ∧ (∀ p : Prop, (True → p) = p) ∧ (∀ p : Prop, (p → True) = True) ∧ (∀ {β : Type} (t e : Tree β) (Q : β → Prop), (Tree.br true t e).sat Q = t.sat Q) ∧
    (∀ {β : Type} (t e : Tree β) (Q : β → Prop), (Tree.br false t e).sat Q = e.sat Q) ∧ (∀ {β : Type} (c : Bool) (t e : Tree β) (Q : β → Prop), (Tree.br c t e).sat Q = ((c = true → t.sat Q) ∧ (¬ c = true → e.sat Q))) ∧
    (∀ {β : Type} (c : Bool) (t : Tree β) (Q : β → Prop), (Tree.chk c t).sat Q = (c = true ∧ t.sat Q)) ∧ (∀ {β : Type} (a : β) (Q : β → Prop), (Tree.leaf a).sat Q = Q a) ∧ (∀ {β : Type} (Q : β → Prop), (Tree.fail : Tree β).sat Q = False) ∧
    (∀ p : Prop, cl p = false ↔ ¬ p) ∧ (∀ x : Option Blk, OLe x none = True) ∧ (∀ n : Nat, n - 0 = n) ∧ (∀ (p : Prop) [Decidable p], (decide p = false) ↔ ¬ p) ∧ (∀ (x : AV) (xs ys : List AV), (x :: xs) ++ ys = x :: (xs ++ ys)) ∧ (∀ ys : List AV, [] ++ ys = ys) ∧
    (∀ (x : Option Blk) (xs ys : Heap), (x :: xs) ++ ys = x :: (xs ++ ys)) ∧ (∀ ys : Heap, [] ++ ys = ys) ∧ (∀ (f : Blk → Option Blk) (x : Blk) (xs : List Blk), (x :: xs).map f = f x :: xs.map f) ∧ (∀ f : Blk → Option Blk, ([] : List Blk).map f = []) := by
  refine ⟨Bool.true_eq_false, false_implies, true_implies, fun p => implies_true p, fun t e Q => sat_brT, fun t e Q => sat_brF, fun c t e Q => sat_brN, fun c t Q => rfl, fun a Q => rfl, fun Q => rfl, fun p => cl_false, fun x => eq_true (OLe.none x), Nat.sub_zero, fun p _ => decide_eq_false_iff_not, fun _ _ _ => rfl, fun _ => rfl, fun _ _ _ => rfl, fun _ => rfl, fun _ _ _ => rfl, fun _ => rfl⟩
end Go.Eng

namespace Go.Eng
open Go Go.Lib
def bN (s : ByteArray) (i : Nat) : Nat := (s.data[i]?.getD 0).toNat
theorem sbyte_bN (s : ByteArray) (i : Nat) : sbyte s i = (bN s i : Int) := rfl
theorem bN_lt (s : ByteArray) (i : Nat) : bN s i < 256 := (s.data[i]?.getD 0).toNat_lt
theorem get_bN (s : ByteArray) (i : Nat) : (s.get! i).toNat = bN s i := by
  unfold bN
  cases s with
  | mk d =>
    show (d[i]!).toNat = _
    rw [getElem!_def]
    cases h : d[i]? <;> rfl
theorem bN_out {s : ByteArray} {i : Nat} (h : s.size ≤ i) : bN s i = 0 := by
  unfold bN
  rw [Array.getElem?_eq_none (by simpa using h)]; rfl
theorem decode_bN (s : ByteArray) (i : Nat) : Utf8.decode s i = decodeN (s.size - i) (bN s i) (bN s (i + 1)) (bN s (i + 2)) (bN s (i + 3)) := by
  rw [decode_at]; simp only [get_bN]
theorem bN_extract (s : ByteArray) (a b i : Nat) (hb : b ≤ s.size) : bN (s.extract a b) i = if a + i < b then bN s (a + i) else 0 := by
  unfold bN
  rw [ByteArray.data_extract]
  rw [Array.getElem?_extract]
  have : min b s.data.size = b := Nat.min_eq_left hb
  rw [this]
  by_cases h : a + i < b
  · rw [if_pos (by omega), if_pos h]
  · rw [if_neg (by omega), if_neg h]; rfl
theorem ext_size (s : ByteArray) (a b : Nat) (hb : b ≤ s.size) : (s.extract a b).size = b - a := by
  rw [ByteArray.size_extract, Nat.min_eq_left hb]
theorem bN_append (a b : ByteArray) (j : Nat) : bN (a ++ b) j = if j < a.size then bN a j else bN b (j - a.size) := by
  have := sbyte_append a b j
  simp only [sbyte_bN] at this
  split at this <;> rename_i h
  · rw [if_pos h]; omega
  · rw [if_neg h]; omega
theorem bN_eq {a b : ByteArray} (hs : a.size = b.size) (h : ∀ j, j < a.size → bN a j = bN b j) : a = b :=
  bs_eq hs fun j hj => by rw [sbyte_bN, sbyte_bN, h j hj]
set_option maxRecDepth 100000 in
set_option maxHeartbeats 2000000 in
theorem shapeN (n b0 b1 b2 b3 : Nat) :
    (b0 < 128 ∧ decodeN n b0 b1 b2 b3 = (b0, 1)) ∨
    (b0 / 32 = 6 ∧ 1 < n ∧ b1 / 64 = 2 ∧ 128 ≤ b0 % 32 * 64 + b1 % 64 ∧ decodeN n b0 b1 b2 b3 = (b0 % 32 * 64 + b1 % 64, 2)) ∨
    (b0 / 16 = 14 ∧ 2 < n ∧ b1 / 64 = 2 ∧ b2 / 64 = 2 ∧ 2048 ≤ b0 % 16 * 4096 + b1 % 64 * 64 + b2 % 64 ∧ (b0 % 16 * 4096 + b1 % 64 * 64 + b2 % 64 < 55296 ∨ 57344 ≤ b0 % 16 * 4096 + b1 % 64 * 64 + b2 % 64) ∧
      decodeN n b0 b1 b2 b3 = (b0 % 16 * 4096 + b1 % 64 * 64 + b2 % 64, 3)) ∨
    (b0 / 8 = 30 ∧ 3 < n ∧ b1 / 64 = 2 ∧ b2 / 64 = 2 ∧ b3 / 64 = 2 ∧ 65536 ≤ b0 % 8 * 262144 + b1 % 64 * 4096 + b2 % 64 * 64 + b3 % 64 ∧ b0 % 8 * 262144 + b1 % 64 * 4096 + b2 % 64 * 64 + b3 % 64 ≤ 1114111 ∧
      decodeN n b0 b1 b2 b3 = (b0 % 8 * 262144 + b1 % 64 * 4096 + b2 % 64 * 64 + b3 % 64, 4)) ∨
    (decodeN n b0 b1 b2 b3 = (65533, 1) ∧ 128 ≤ b0 ∧
      ¬ (b0 / 32 = 6 ∧ 1 < n ∧ b1 / 64 = 2 ∧ 128 ≤ b0 % 32 * 64 + b1 % 64) ∧
      ¬ (b0 / 16 = 14 ∧ 2 < n ∧ b1 / 64 = 2 ∧ b2 / 64 = 2 ∧ 2048 ≤ b0 % 16 * 4096 + b1 % 64 * 64 + b2 % 64 ∧ (b0 % 16 * 4096 + b1 % 64 * 64 + b2 % 64 < 55296 ∨ 57344 ≤ b0 % 16 * 4096 + b1 % 64 * 64 + b2 % 64)) ∧
      ¬ (b0 / 8 = 30 ∧ 3 < n ∧ b1 / 64 = 2 ∧ b2 / 64 = 2 ∧ b3 / 64 = 2 ∧ 65536 ≤ b0 % 8 * 262144 + b1 % 64 * 4096 + b2 % 64 * 64 + b3 % 64 ∧ b0 % 8 * 262144 + b1 % 64 * 4096 + b2 % 64 * 64 + b3 % 64 ≤ 1114111)) := by
  unfold decodeN
  repeat' split
  all_goals first
    | exact .inl ⟨by omega, rfl⟩
    | exact .inr (.inl ⟨by omega, by omega, by omega, by omega, rfl⟩)
    | exact .inr (.inr (.inl ⟨by omega, by omega, by omega, by omega, by omega, by omega, rfl⟩))
    | exact .inr (.inr (.inr (.inl ⟨by omega, by omega, by omega, by omega, by omega, by omega, by omega, rfl⟩)))
    | exact .inr (.inr (.inr (.inr ⟨rfl, by omega, by omega, by omega, by omega⟩)))
theorem dec_pos (s : ByteArray) (p : Nat) : 1 ≤ (Utf8.decode s p).2 := by
  rw [decode_bN]
  rcases shapeN (s.size - p) (bN s p) (bN s (p + 1)) (bN s (p + 2)) (bN s (p + 3)) with ⟨_, h⟩ | ⟨_, _, _, _, h⟩ | ⟨_, _, _, _, _, _, h⟩ | ⟨_, _, _, _, _, _, _, h⟩ | ⟨h, _⟩ <;> rw [h] <;> simp
theorem dec_le {s : ByteArray} {p : Nat} (hp : p < s.size) : p + (Utf8.decode s p).2 ≤ s.size := by
  rw [decode_bN]
  rcases shapeN (s.size - p) (bN s p) (bN s (p + 1)) (bN s (p + 2)) (bN s (p + 3)) with ⟨_, h⟩ | ⟨_, _, _, _, h⟩ | ⟨_, _, _, _, _, _, h⟩ | ⟨_, _, _, _, _, _, _, h⟩ | ⟨h, _⟩ <;> rw [h] <;> simp only <;> omega
theorem dec_four (s : ByteArray) (p : Nat) : (Utf8.decode s p).2 ≤ 4 := by
  rw [decode_bN]
  rcases shapeN (s.size - p) (bN s p) (bN s (p + 1)) (bN s (p + 2)) (bN s (p + 3)) with ⟨_, h⟩ | ⟨_, _, _, _, h⟩ | ⟨_, _, _, _, _, _, h⟩ | ⟨_, _, _, _, _, _, _, h⟩ | ⟨h, _⟩ <;> rw [h] <;> simp only <;> omega
def okR (c : Nat) : Prop := c < 55296 ∨ (57344 ≤ c ∧ c ≤ 1114111)
theorem dec_ok (s : ByteArray) (p : Nat) : okR (Utf8.decode s p).1 := by
  rw [decode_bN]
  have := bN_lt s p
  unfold okR
  rcases shapeN (s.size - p) (bN s p) (bN s (p + 1)) (bN s (p + 2)) (bN s (p + 3)) with ⟨_, h⟩ | ⟨_, _, _, _, h⟩ | ⟨_, _, _, _, _, _, h⟩ | ⟨_, _, _, _, _, _, _, h⟩ | ⟨h, _⟩ <;> rw [h] <;> simp only <;> omega
theorem dec_ext {s : ByteArray} {p : Nat} (hp : p ≤ s.size) : Utf8.decode (s.extract p s.size) 0 = Utf8.decode s p := by
  rw [decode_bN, decode_bN, ext_size _ _ _ (Nat.le_refl _)]
  have h : ∀ i, bN (s.extract p s.size) i = bN s (p + i) := fun i => by
    rw [bN_extract _ _ _ _ (Nat.le_refl _)]
    split
    · rfl
    · rw [bN_out (by omega)]
  simp only [h, Nat.sub_zero, Nat.add_zero, Nat.zero_add]
theorem dec_extQ {s : ByteArray} {p q : Nat} (hp : p ≤ s.size) : Utf8.decode (s.extract p s.size) q = Utf8.decode s (p + q) := by
  rw [decode_bN, decode_bN, ext_size _ _ _ (Nat.le_refl _)]
  have h : ∀ i, bN (s.extract p s.size) i = bN s (p + i) := fun i => by
    rw [bN_extract _ _ _ _ (Nat.le_refl _)]
    split
    · rfl
    · rw [bN_out (by omega)]
  simp only [h, Nat.sub_sub, Nat.add_assoc]
set_option maxRecDepth 100000 in
set_option maxHeartbeats 2000000 in
theorem dec_cut {s : ByteArray} {p i : Nat} (hi : i ≤ s.size) (h : p + (Utf8.decode s p).2 ≤ i) : Utf8.decode (s.extract 0 i) p = Utf8.decode s p := by
  have hb : ∀ k, bN (s.extract 0 i) k = if k < i then bN s k else 0 := fun k => by
    rw [bN_extract _ _ _ _ hi, Nat.zero_add]
  rw [decode_bN] at h
  rw [decode_bN, decode_bN, ext_size _ _ _ hi]
  simp only [hb, Nat.sub_zero]
  rcases shapeN (s.size - p) (bN s p) (bN s (p + 1)) (bN s (p + 2)) (bN s (p + 3)) with ⟨h1, h0⟩ | ⟨h1, h2, h3, h4, h0⟩ | ⟨h1, h2, h3, h4, h5, h6, h0⟩ | ⟨h1, h2, h3, h4, h5, h6, h7, h0⟩ | ⟨h0, h1, h2, h3, h4⟩ <;> rw [h0] at h ⊢ <;> simp only at h
  · rw [if_pos (by omega)]
    unfold decodeN
    rw [if_pos (by omega)]
  · rw [if_pos (by omega), if_pos (by omega)]
    rcases shapeN (i - p) (bN s p) (bN s (p + 1)) (if p + 2 < i then bN s (p + 2) else 0) (if p + 3 < i then bN s (p + 3) else 0) with ⟨k1, k0⟩ | ⟨k1, k2, k3, k4, k0⟩ | ⟨k1, _⟩ | ⟨k1, _⟩ | ⟨k0, k1, k2, k3, k4⟩
    · omega
    · exact k0
    · omega
    · omega
    · omega
  · rw [if_pos (by omega), if_pos (by omega), if_pos (by omega)]
    rcases shapeN (i - p) (bN s p) (bN s (p + 1)) (bN s (p + 2)) (if p + 3 < i then bN s (p + 3) else 0) with ⟨k1, k0⟩ | ⟨k1, k2, k3, k4, k0⟩ | ⟨k1, k2, k3, k4, k5, k6, k0⟩ | ⟨k1, _⟩ | ⟨k0, k1, k2, k3, k4⟩
    · omega
    · omega
    · exact k0
    · omega
    · omega
  · rw [if_pos (by omega), if_pos (by omega), if_pos (by omega), if_pos (by omega)]
    rcases shapeN (i - p) (bN s p) (bN s (p + 1)) (bN s (p + 2)) (bN s (p + 3)) with ⟨k1, k0⟩ | ⟨k1, k2, k3, k4, k0⟩ | ⟨k1, k2, k3, k4, k5, k6, k0⟩ | ⟨k1, k2, k3, k4, k5, k6, k7, k0⟩ | ⟨k0, k1, k2, k3, k4⟩
    · omega
    · omega
    · omega
    · exact k0
    · omega
  · rw [if_pos (by omega)]
    rcases shapeN (i - p) (bN s p) (if p + 1 < i then bN s (p + 1) else 0) (if p + 2 < i then bN s (p + 2) else 0) (if p + 3 < i then bN s (p + 3) else 0) with ⟨k1, k0⟩ | ⟨k1, k2, k3, k4, k0⟩ | ⟨k1, k2, k3, k4, k5, k6, k0⟩ | ⟨k1, k2, k3, k4, k5, k6, k7, k0⟩ | ⟨k0, k1, k2, k3, k4⟩
    · omega
    · rw [if_pos (by omega)] at k3 k4; omega
    · rw [if_pos (by omega)] at k3 k5 k6; rw [if_pos (by omega)] at k4 k5 k6; omega
    · rw [if_pos (by omega)] at k3 k6 k7; rw [if_pos (by omega)] at k4 k6 k7; rw [if_pos (by omega)] at k5 k6 k7; omega
    · exact k0
end Go.Eng

namespace Go.Eng
open Go Go.Lib
def encR (c : Nat) : ByteArray := Utf8.encode (c : Int)
def b8 (n : Nat) : UInt8 := UInt8.ofNat n
theorem b8_nat {n : Nat} (h : n < 256) : (b8 n).toNat = n := by
  show (UInt8.ofNat n).toNat = n
  simp
  omega
theorem encR_eq {c : Nat} (h : okR c) : encR c = if c < 128 then ⟨#[b8 c]⟩ else if c < 2048 then ⟨#[b8 (192 + c / 64), b8 (128 + c % 64)]⟩ else if c < 65536 then ⟨#[b8 (224 + c / 4096), b8 (128 + c / 64 % 64), b8 (128 + c % 64)]⟩
    else ⟨#[b8 (240 + c / 262144), b8 (128 + c / 4096 % 64), b8 (128 + c / 64 % 64), b8 (128 + c % 64)]⟩ := by
  unfold encR Utf8.encode
  have hv : Utf8.valid (c : Int) = true := by
    unfold okR at h
    simp only [Utf8.valid, Bool.or_eq_true, Bool.and_eq_true, decide_eq_true_eq]
    omega
  rw [hv]
  rfl
theorem bN_cons0 (a : UInt8) (l : List UInt8) : bN ⟨⟨a :: l⟩⟩ 0 = a.toNat := rfl
theorem bN_consS (a : UInt8) (l : List UInt8) (i : Nat) : bN ⟨⟨a :: l⟩⟩ (i + 1) = bN ⟨⟨l⟩⟩ i := by
  unfold bN; simp
theorem bN_nil (i : Nat) : bN ⟨⟨[]⟩⟩ i = 0 := by unfold bN; simp
theorem size_mk (l : List UInt8) : ByteArray.size ⟨⟨l⟩⟩ = l.length := rfl
set_option maxRecDepth 100000 in
set_option maxHeartbeats 4000000 in
theorem dec_enc {s : ByteArray} {p : Nat} (hp : p < s.size) (he : ¬ (Utf8.decode s p = (65533, 1))) : encR (Utf8.decode s p).1 = s.extract p (p + (Utf8.decode s p).2) := by
  have hl := dec_le hp
  rw [encR_eq (dec_ok s p)]
  have k0 := bN_lt s p
  have k1 := bN_lt s (p + 1)
  have k2 := bN_lt s (p + 2)
  have k3 := bN_lt s (p + 3)
  have hx : ∀ j, j < (Utf8.decode s p).2 → bN (s.extract p (p + (Utf8.decode s p).2)) j = bN s (p + j) := fun j hj => by
    rw [bN_extract _ _ _ _ hl, if_pos (by omega)]
  have hz : (s.extract p (p + (Utf8.decode s p).2)).size = (Utf8.decode s p).2 := by rw [ext_size _ _ _ hl]; omega
  refine bN_eq ?_ ?_
  · rw [hz, decode_bN]
    rw [decode_bN] at he hl
    rcases shapeN (s.size - p) (bN s p) (bN s (p + 1)) (bN s (p + 2)) (bN s (p + 3)) with ⟨_, h⟩ | ⟨_, _, _, _, h⟩ | ⟨_, _, _, _, _, _, h⟩ | ⟨_, _, _, _, _, _, _, h⟩ | ⟨h, _⟩ <;> rw [h] at he ⊢ <;> simp only
    · rw [if_pos (by omega)]; rfl
    · rw [if_neg (by omega), if_pos (by omega)]; rfl
    · rw [if_neg (by omega), if_neg (by omega), if_pos (by omega)]; rfl
    · rw [if_neg (by omega), if_neg (by omega), if_neg (by omega)]; rfl
    · exact absurd rfl he
  · rw [decode_bN]
    rw [decode_bN] at he hl hx
    intro j hj
    rcases shapeN (s.size - p) (bN s p) (bN s (p + 1)) (bN s (p + 2)) (bN s (p + 3)) with ⟨_, h⟩ | ⟨_, _, _, _, h⟩ | ⟨_, _, _, _, _, _, h⟩ | ⟨_, _, _, _, _, _, _, h⟩ | ⟨h, _⟩ <;> rw [h] at he hx hj ⊢ <;> simp only at hj hx ⊢
    · rw [if_pos (by omega)] at hj ⊢
      have hj : j < 1 := hj
      obtain rfl : j = 0 := by omega
      rw [hx 0 (by omega), bN_cons0, b8_nat (by omega)]; rfl
    · rw [if_neg (by omega), if_pos (by omega)] at hj ⊢
      have hj : j < 2 := hj
      rw [hx j (by omega)]
      match j, hj with
      | 0, _ =>
        rw [bN_cons0, b8_nat (by omega)]
        show _ = bN s p
        omega
      | 1, _ => rw [bN_consS, bN_cons0, b8_nat (by omega)]; omega
    · rw [if_neg (by omega), if_neg (by omega), if_pos (by omega)] at hj ⊢
      have hj : j < 3 := hj
      rw [hx j (by omega)]
      match j, hj with
      | 0, _ =>
        rw [bN_cons0, b8_nat (by omega)]
        show _ = bN s p
        omega
      | 1, _ => rw [bN_consS, bN_cons0, b8_nat (by omega)]; omega
      | 2, _ => rw [bN_consS, bN_consS, bN_cons0, b8_nat (by omega)]; omega
    · rw [if_neg (by omega), if_neg (by omega), if_neg (by omega)] at hj ⊢
      have hj : j < 4 := hj
      rw [hx j (by omega)]
      match j, hj with
      | 0, _ =>
        rw [bN_cons0, b8_nat (by omega)]
        show _ = bN s p
        omega
      | 1, _ => rw [bN_consS, bN_cons0, b8_nat (by omega)]; omega
      | 2, _ => rw [bN_consS, bN_consS, bN_cons0, b8_nat (by omega)]; omega
      | 3, _ => rw [bN_consS, bN_consS, bN_consS, bN_cons0, b8_nat (by omega)]; omega
    · exact absurd rfl he
theorem dec_at_enc {s e : ByteArray} {p : Nat} (hz : p + e.size ≤ s.size) (h : ∀ j, j < e.size → bN s (p + j) = bN e j) {c : Nat} (hc : okR c) (he : e = encR c) : Utf8.decode s p = (c, e.size) := by
  rw [encR_eq hc] at he
  rw [decode_bN]
  unfold okR at hc
  by_cases h1 : c < 128
  · rw [if_pos h1] at he
    subst he
    have hz : p + 1 ≤ s.size := hz
    have e0 := h 0 (by simp [size_mk])
    rw [bN_cons0, b8_nat (by omega), Nat.add_zero] at e0
    unfold decodeN
    rw [if_pos (by omega), e0]; rfl
  rw [if_neg h1] at he
  by_cases h2 : c < 2048
  · rw [if_pos h2] at he
    subst he
    have hz : p + 2 ≤ s.size := hz
    have e0 := h 0 (by simp [size_mk])
    have e1 := h 1 (by simp [size_mk])
    rw [bN_cons0, b8_nat (by omega), Nat.add_zero] at e0
    rw [bN_consS, bN_cons0, b8_nat (by omega)] at e1
    show decodeN _ _ _ _ _ = (c, 2)
    rcases shapeN (s.size - p) (bN s p) (bN s (p + 1)) (bN s (p + 2)) (bN s (p + 3)) with ⟨_, k⟩ | ⟨_, _, _, _, k⟩ | ⟨_, _, _, _, _, _, k⟩ | ⟨_, _, _, _, _, _, _, k⟩ | ⟨k, _⟩
    · omega
    · rw [k]; exact Prod.ext (by show _ = c; omega) rfl
    · omega
    · omega
    · omega
  rw [if_neg h2] at he
  by_cases h3 : c < 65536
  · rw [if_pos h3] at he
    subst he
    have hz : p + 3 ≤ s.size := hz
    have e0 := h 0 (by simp [size_mk])
    have e1 := h 1 (by simp [size_mk])
    have e2 := h 2 (by simp [size_mk])
    rw [bN_cons0, b8_nat (by omega), Nat.add_zero] at e0
    rw [bN_consS, bN_cons0, b8_nat (by omega)] at e1
    rw [bN_consS, bN_consS, bN_cons0, b8_nat (by omega)] at e2
    show decodeN _ _ _ _ _ = (c, 3)
    rcases shapeN (s.size - p) (bN s p) (bN s (p + 1)) (bN s (p + 2)) (bN s (p + 3)) with ⟨_, k⟩ | ⟨_, _, _, _, k⟩ | ⟨_, _, _, _, _, _, k⟩ | ⟨_, _, _, _, _, _, _, k⟩ | ⟨k, _⟩
    · omega
    · omega
    · rw [k]; exact Prod.ext (by show _ = c; omega) rfl
    · omega
    · omega
  rw [if_neg h3] at he
  subst he
  have hz : p + 4 ≤ s.size := hz
  have e0 := h 0 (by simp [size_mk])
  have e1 := h 1 (by simp [size_mk])
  have e2 := h 2 (by simp [size_mk])
  have e3 := h 3 (by simp [size_mk])
  rw [bN_cons0, b8_nat (by omega), Nat.add_zero] at e0
  rw [bN_consS, bN_cons0, b8_nat (by omega)] at e1
  rw [bN_consS, bN_consS, bN_cons0, b8_nat (by omega)] at e2
  rw [bN_consS, bN_consS, bN_consS, bN_cons0, b8_nat (by omega)] at e3
  show decodeN _ _ _ _ _ = (c, 4)
  rcases shapeN (s.size - p) (bN s p) (bN s (p + 1)) (bN s (p + 2)) (bN s (p + 3)) with ⟨_, k⟩ | ⟨_, _, _, _, k⟩ | ⟨_, _, _, _, _, _, k⟩ | ⟨_, _, _, _, _, _, _, k⟩ | ⟨k, _⟩
  · omega
  · omega
  · omega
  · rw [k]; exact Prod.ext (by show _ = c; omega) rfl
  · omega
theorem encR_size {c : Nat} (h : okR c) : 1 ≤ (encR c).size ∧ (encR c).size ≤ 4 := by
  rw [encR_eq h]
  repeat' split
  all_goals exact ⟨by simp [size_mk], by simp [size_mk]⟩
def rF (s : ByteArray) : Nat → Nat → List Nat
  | 0, _ => []
  | k + 1, p => if p < s.size then (Utf8.decode s p).1 :: rF s k (p + (Utf8.decode s p).2) else []
def rns (s : ByteArray) (p : Nat) : List Nat := rF s (s.size - p) p
theorem rF_more (s : ByteArray) : ∀ (k k' p : Nat), s.size - p ≤ k → s.size - p ≤ k' → rF s k p = rF s k' p := by
  intro k
  induction k with
  | zero =>
    intro k' p h _
    cases k' with
    | zero => rfl
    | succ k' => rw [rF, rF, if_neg (by omega)]
  | succ k ih =>
    intro k' p h h'
    cases k' with
    | zero => rw [rF, rF, if_neg (by omega)]
    | succ k' =>
      rw [rF, rF]
      split
      · have := dec_pos s p
        rw [ih k' _ (by omega) (by omega)]
      · rfl
theorem rns_step {s : ByteArray} {p : Nat} (h : p < s.size) : rns s p = (Utf8.decode s p).1 :: rns s (p + (Utf8.decode s p).2) := by
  have := dec_pos s p
  unfold rns
  obtain ⟨k, hk⟩ : ∃ k, s.size - p = k + 1 := ⟨s.size - p - 1, by omega⟩
  rw [hk, rF, if_pos h, rF_more s k (s.size - (p + (Utf8.decode s p).2)) _ (by omega) (Nat.le_refl _)]
theorem rns_end {s : ByteArray} {p : Nat} (h : s.size ≤ p) : rns s p = [] := by
  unfold rns
  rw [show s.size - p = 0 by omega]; rfl
theorem rns_len {s : ByteArray} {p : Nat} : (rns s p).length ≤ s.size - p := by
  have : ∀ n p, s.size - p ≤ n → (rns s p).length ≤ s.size - p := by
    intro n
    induction n with
    | zero => intro p h; rw [rns_end (by omega)]; simp
    | succ n ih =>
      intro p h
      by_cases hp : p < s.size
      · rw [rns_step hp]
        have := dec_pos s p
        have := dec_le hp
        have := ih (p + (Utf8.decode s p).2) (by omega)
        simp only [List.length_cons]; omega
      · rw [rns_end (by omega)]; simp
  exact this _ p (Nat.le_refl _)
def badAt (s : ByteArray) (p : Nat) : Prop := Utf8.decode s p = (65533, 1)
instance (s : ByteArray) (p : Nat) : Decidable (badAt s p) := by unfold badAt; infer_instance
def gF (s : ByteArray) : Nat → Nat → Bool
  | 0, _ => true
  | k + 1, p => if p < s.size then !decide (badAt s p) && gF s k (p + (Utf8.decode s p).2) else true
def good (s : ByteArray) (p : Nat) : Bool := gF s (s.size - p) p
theorem gF_more (s : ByteArray) : ∀ (k k' p : Nat), s.size - p ≤ k → s.size - p ≤ k' → gF s k p = gF s k' p := by
  intro k
  induction k with
  | zero =>
    intro k' p h _
    cases k' with
    | zero => rfl
    | succ k' => rw [gF, gF, if_neg (by omega)]
  | succ k ih =>
    intro k' p h h'
    cases k' with
    | zero => rw [gF, gF, if_neg (by omega)]
    | succ k' =>
      rw [gF, gF]
      split
      · have := dec_pos s p
        rw [ih k' _ (by omega) (by omega)]
      · rfl
theorem good_step {s : ByteArray} {p : Nat} (h : p < s.size) : good s p = (!decide (badAt s p) && good s (p + (Utf8.decode s p).2)) := by
  have := dec_pos s p
  unfold good
  obtain ⟨k, hk⟩ : ∃ k, s.size - p = k + 1 := ⟨s.size - p - 1, by omega⟩
  rw [hk, gF, if_pos h, gF_more s k (s.size - (p + (Utf8.decode s p).2)) _ (by omega) (Nat.le_refl _)]
theorem good_end {s : ByteArray} {p : Nat} (h : s.size ≤ p) : good s p = true := by
  unfold good
  rw [show s.size - p = 0 by omega]; rfl
theorem rns_ok {s : ByteArray} {p : Nat} : ∀ c ∈ rns s p, okR c := by
  have : ∀ n p, s.size - p ≤ n → ∀ c ∈ rns s p, okR c := by
    intro n
    induction n with
    | zero => intro p h c hc; rw [rns_end (by omega)] at hc; simp at hc
    | succ n ih =>
      intro p h c hc
      by_cases hp : p < s.size
      · rw [rns_step hp] at hc
        have := dec_pos s p
        rcases List.mem_cons.1 hc with rfl | hc
        · exact dec_ok s p
        · exact ih _ (by omega) c hc
      · rw [rns_end (by omega)] at hc; simp at hc
  exact this _ p (Nat.le_refl _)
end Go.Eng
namespace Go.Eng
open Go
theorem ext_ext {s : ByteArray} {p w n : Nat} (h : p + w ≤ s.size) (hn : n = (s.extract p s.size).size) : (s.extract p s.size).extract w n = s.extract (p + w) s.size := by
  subst hn
  have h1 : (s.extract p s.size).size = s.size - p := ext_size _ _ _ (Nat.le_refl _)
  refine bN_eq ?_ fun j hj => ?_
  · rw [ext_size _ _ _ (Nat.le_refl _), h1, ext_size _ _ _ (Nat.le_refl _)]; omega
  · rw [bN_extract _ _ _ _ (Nat.le_refl _), bN_extract _ _ _ _ (Nat.le_refl _), bN_extract _ _ _ _ (Nat.le_refl _), h1]
    by_cases h2 : p + w + j < s.size
    · rw [if_pos (by omega), if_pos (by omega), if_pos h2, Nat.add_assoc]
    · rw [if_neg (by omega), if_neg h2]
theorem ext_all (s : ByteArray) : s.extract 0 s.size = s := by
  refine bN_eq ?_ fun j hj => ?_
  · rw [ext_size _ _ _ (Nat.le_refl _)]; rfl
  · rw [ext_size _ _ _ (Nat.le_refl _)] at hj
    rw [bN_extract _ _ _ _ (Nat.le_refl _), Nat.zero_add, if_pos (by omega)]
theorem ext_none (s : ByteArray) : s.extract s.size s.size = ⟨#[]⟩ := by
  refine bN_eq ?_ fun j hj => ?_
  · rw [ext_size _ _ _ (Nat.le_refl _)]; simp; rfl
  · rw [ext_size _ _ _ (Nat.le_refl _)] at hj; omega
def adv (s : ByteArray) : Nat → Nat → Nat
  | 0, p => p
  | k + 1, p => if p < s.size then adv s k (p + (Utf8.decode s p).2) else p
theorem adv_le {s : ByteArray} : ∀ {k p : Nat}, p ≤ s.size → adv s k p ≤ s.size
  | 0, p, h => h
  | k + 1, p, h => by
    rw [adv]
    split
    · rename_i h'; exact adv_le (dec_le h')
    · exact h
theorem adv_end {s : ByteArray} {k p : Nat} (h : s.size ≤ p) : adv s k p = p := by
  cases k with
  | zero => rfl
  | succ k => rw [adv, if_neg (by omega)]
theorem adv_step {s : ByteArray} {k p : Nat} (h : p < s.size) (hk : 0 < k) : adv s k p = adv s (k - 1) (p + (Utf8.decode s p).2) := by
  obtain ⟨k, rfl⟩ : ∃ j, k = j + 1 := ⟨k - 1, by omega⟩
  rw [adv, if_pos h]; rfl
def okAt (s : ByteArray) (p : Nat) : Bool := !decide (badAt s p)
theorem okAt_t {s : ByteArray} {p : Nat} {d : Nat × Nat} (h : Utf8.decode s p = d) (hn : ¬ d = (65533, 1)) : okAt s p = true := by
  unfold okAt
  have : ¬ badAt s p := fun e => hn (h.symm.trans e)
  rw [decide_eq_false this]; rfl
theorem okAt_f {s : ByteArray} {p : Nat} (h : Utf8.decode s p = (65533, 1)) : okAt s p = false := by
  unfold okAt
  have : badAt s p := h
  rw [decide_eq_true this]; rfl
theorem okAt_ext {s : ByteArray} {p : Nat} (hp : p ≤ s.size) : okAt (s.extract p s.size) 0 = okAt s p := by
  unfold okAt badAt
  exact congrArg Bool.not (decide_eq_decide.2 (by rw [dec_ext hp]))
theorem good_ok {s : ByteArray} {p : Nat} (h : p < s.size) : good s p = (okAt s p && good s (p + (Utf8.decode s p).2)) := good_step h
end Go.Eng

namespace Go.Eng.M
open Go Go.Eng
theorem wrap64 {x : Int} (h : -9223372036854775808 ≤ x) (h' : x ≤ 9223372036854775807) : IntKind.i64.wrap x = x := by
  simp only [IntKind.wrap, IntKind.signed, IntKind.bits]; simp; omega
end Go.Eng.M

namespace Go.Eng.TA
open Go Go.Eng Go.Eng.M Go.Lib Go.Proofs
def tl (s : ByteArray) (i : Int) : Int := if i < (s.size : Int) ∧ 128 ≤ sbyte s i.toNat ∧ sbyte s i.toNat < 192 then sbyte s i.toNat - 128 else -1
theorem run32 (s : ByteArray) (i : Int) : bodyE (P := Tryd.prog) (Γ := Γm) [] Lno false 28 [.tmp 4] (bodyOf Tryd.f108) [.v (.string s), .v (.int .i64 i)] [] =
  Tree.chk (bif decide (i < (↑(ByteArray.size s) : Int)) then decide ((0 : Int) ≤ i) && decide (i < (↑(ByteArray.size s) : Int)) && bif decide ((128 : Int) ≤ IntKind.wrap IntKind.i64 (sbyte s 
    (Int.toNat i))) then decide ((0 : Int) ≤ i) && decide (i < (↑(ByteArray.size s) : Int)) else true else true) (.br (bif decide (i < (↑(ByteArray.size s) : Int)) then bif decide 
    ((128 : Int) ≤ IntKind.wrap IntKind.i64 (sbyte s (Int.toNat i))) then decide (IntKind.wrap IntKind.i64 (sbyte s (Int.toNat i)) < (192 : Int)) else false else false) (.chk (decide 
    ((0 : Int) ≤ i) && decide (i < (↑(ByteArray.size s) : Int))) (.leaf (Ans.mk (.v (.int .i64 (IntKind.wrap IntKind.i64 (IntKind.wrap IntKind.i64 (sbyte s (Int.toNat i)) - (128 : 
    Int))))) []))) (.leaf (Ans.mk (.v (.int .i64 (-1 : Int))) []))) := by kernel_rfl
theorem ansTail {s : ByteArray} {i : Int} (h : 0 ≤ i) : Answers Tryd.prog Γm 108 [.v (.string s), .v (.int .i64 i)] [] (.v (.int .i64 (tl s i))) [] [] :=
  answers (fn := Tryd.f108) (c := bodyOf Tryd.f108) (ntmps := 28) (results := [.tmp 4]) [] Lno false Tryd.func108 (by kernel_rfl) (by kernel_rfl) (by kernel_rfl) (by kernel_rfl) (by simp) rfl (noLoops (by kernel_rfl)) <| Meets.of (run32 s i) <| by
    have hw : IntKind.i64.wrap (sbyte s i.toNat) = sbyte s i.toNat := by
      have := sbyte_range s i.toNat
      rw [wrap64E]; omega
    have hw2 : IntKind.i64.wrap (sbyte s i.toNat - 128) = sbyte s i.toNat - 128 := by
      have := sbyte_range s i.toNat
      rw [wrap64E]; omega
    have hc : ∀ {a b c : Bool}, (bif a then c else true) = (!a || c) := by intro a b c; cases a <;> rfl
    by_cases h1 : i < (s.size : Int)
    · by_cases h2 : 128 ≤ sbyte s i.toNat
      · by_cases h3 : sbyte s i.toNat < 192
        · have e : tl s i = sbyte s i.toNat - 128 := if_pos ⟨h1, h2, h3⟩
          simp only [W1, W2, owesN, owesX, owesR, cond_true, cond_false, hw, hw2, h, h1, h2, h3, e, decide_true]
          repeat' (first | apply And.intro | intro _hc)
          all_goals first | omega | contradiction | exact AV.le_refl _ | exact AV.le_any _ | exact OLe.refl _ | exact OLe.none _ | exact LeH.refl _ | exact LeL.refl _ | exact AV.le.bs _ | exact AV.le.sb _ | (exfalso; omega) | contradiction
        · have e : tl s i = -1 := if_neg fun h => h3 h.2.2
          simp only [W1, W2, owesN, owesX, owesR, cond_true, cond_false, hw, hw2, h, h1, h2, h3, e, decide_true, decide_false]
          repeat' (first | apply And.intro | intro _hc)
          all_goals first | omega | contradiction | exact AV.le_refl _ | exact AV.le_any _ | exact OLe.refl _ | exact OLe.none _ | exact LeH.refl _ | exact LeL.refl _ | exact AV.le.bs _ | exact AV.le.sb _ | (exfalso; omega) | contradiction
      · have e : tl s i = -1 := if_neg fun h => h2 h.2.1
        simp only [W1, W2, owesN, owesX, owesR, cond_true, cond_false, hw, hw2, h, h1, h2, e, decide_true, decide_false]
        repeat' (first | apply And.intro | intro _hc)
        all_goals first | omega | contradiction | exact AV.le_refl _ | exact AV.le_any _ | exact OLe.refl _ | exact OLe.none _ | exact LeH.refl _ | exact LeL.refl _ | exact AV.le.bs _ | exact AV.le.sb _ | (exfalso; omega) | contradiction
    · have e : tl s i = -1 := if_neg fun h => h1 h.1
      simp only [W1, W2, owesN, owesX, owesR, cond_true, cond_false, hw, hw2, h, h1, e, decide_true, decide_false]
      repeat' (first | apply And.intro | intro _hc)
      all_goals first | omega | contradiction | exact AV.le_refl _ | exact AV.le_any _ | exact OLe.refl _ | exact OLe.none _ | exact LeH.refl _ | exact LeL.refl _ | exact AV.le.bs _ | exact AV.le.sb _ | (exfalso; omega) | contradiction
noncomputable def k32 : CT Tryd.prog Γm := CT.oSI 108 Tryd.func108 (by kernel_rfl) (by kernel_rfl) (fun x => 0 ≤ x.2) (fun x => .v (.int .i64 (tl x.1 x.2))) (fun _ => []) (fun x h => ansTail h)
theorem run27 (s : ByteArray) : bodyE (P := Tryd.prog) (Γ := Γm) [k32] Lno false 111 [.tmp 2, .tmp 3, .tmp 4] (bodyOf Tryd.f72) [.v (.string s)] [] =
  Tree.chk (decide ((0 : Int) < (↑(ByteArray.size s) : Int))) (.br (decide (IntKind.wrap IntKind.i64 (sbyte s (Int.toNat (0 : Int))) < (128 : Int))) (.leaf (Ans.mk (.tup [.v (.int .i64 
    (IntKind.wrap IntKind.i64 (sbyte s (Int.toNat (0 : Int))))), .v (.int .i64 (1 : Int)), .v (.bool true)]) [])) (.chk (cl ((0 : Int) ≤ (1 : Int) ∧ LeL [.v (.string s), .v (.int .i64 
    (1 : Int))] [.v (.string s), .v (.int .i64 (1 : Int))] ∧ LeH [] []) && (cl ((0 : Int) ≤ (2 : Int) ∧ LeL [.v (.string s), .v (.int .i64 (2 : Int))] [.v (.string s), .v (.int .i64 (2 
    : Int))] ∧ LeH [] []) && cl ((0 : Int) ≤ (3 : Int) ∧ LeL [.v (.string s), .v (.int .i64 (3 : Int))] [.v (.string s), .v (.int .i64 (3 : Int))] ∧ LeH [] []))) (.br (bif decide ((192 
    : Int) ≤ IntKind.wrap IntKind.i64 (sbyte s (Int.toNat (0 : Int)))) then bif decide (IntKind.wrap IntKind.i64 (sbyte s (Int.toNat (0 : Int))) < (224 : Int)) then decide ((0 : Int) ≤ 
    tl s (1 : Int)) else false else false) (.br (decide ((128 : Int) ≤ IntKind.wrap IntKind.i64 (IntKind.wrap IntKind.i64 (IntKind.wrap IntKind.i64 (IntKind.wrap IntKind.i64 (sbyte s 
    (Int.toNat (0 : Int))) - (192 : Int)) * (64 : Int)) + tl s (1 : Int)))) (.leaf (Ans.mk (.tup [.v (.int .i64 (IntKind.wrap IntKind.i64 (IntKind.wrap IntKind.i64 (IntKind.wrap 
    IntKind.i64 (IntKind.wrap IntKind.i64 (sbyte s (Int.toNat (0 : Int))) - (192 : Int)) * (64 : Int)) + tl s (1 : Int)))), .v (.int .i64 (2 : Int)), .v (.bool true)]) [])) (.br (bif 
    decide ((224 : Int) ≤ IntKind.wrap IntKind.i64 (sbyte s (Int.toNat (0 : Int)))) then bif decide (IntKind.wrap IntKind.i64 (sbyte s (Int.toNat (0 : Int))) < (240 : Int)) then bif 
    decide ((0 : Int) ≤ tl s (1 : Int)) then decide ((0 : Int) ≤ tl s (2 : Int)) else false else false else false) (.br (bif decide ((2048 : Int) ≤ IntKind.wrap IntKind.i64 
    (IntKind.wrap IntKind.i64 (IntKind.wrap IntKind.i64 (IntKind.wrap IntKind.i64 (IntKind.wrap IntKind.i64 (sbyte s (Int.toNat (0 : Int))) - (224 : Int)) * (4096 : Int)) + 
    IntKind.wrap IntKind.i64 (tl s (1 : Int) * (64 : Int))) + tl s (2 : Int))) then bif decide (IntKind.wrap IntKind.i64 (IntKind.wrap IntKind.i64 (IntKind.wrap IntKind.i64 
    (IntKind.wrap IntKind.i64 (IntKind.wrap IntKind.i64 (sbyte s (Int.toNat (0 : Int))) - (224 : Int)) * (4096 : Int)) + IntKind.wrap IntKind.i64 (tl s (1 : Int) * (64 : Int))) + tl s 
    (2 : Int)) < (55296 : Int)) then true else decide ((57343 : Int) < IntKind.wrap IntKind.i64 (IntKind.wrap IntKind.i64 (IntKind.wrap IntKind.i64 (IntKind.wrap IntKind.i64 
    (IntKind.wrap IntKind.i64 (sbyte s (Int.toNat (0 : Int))) - (224 : Int)) * (4096 : Int)) + IntKind.wrap IntKind.i64 (tl s (1 : Int) * (64 : Int))) + tl s (2 : Int))) else false) 
    (.leaf (Ans.mk (.tup [.v (.int .i64 (IntKind.wrap IntKind.i64 (IntKind.wrap IntKind.i64 (IntKind.wrap IntKind.i64 (IntKind.wrap IntKind.i64 (IntKind.wrap IntKind.i64 (sbyte s 
    (Int.toNat (0 : Int))) - (224 : Int)) * (4096 : Int)) + IntKind.wrap IntKind.i64 (tl s (1 : Int) * (64 : Int))) + tl s (2 : Int)))), .v (.int .i64 (3 : Int)), .v (.bool true)]) 
    [])) (.br (bif decide ((240 : Int) ≤ IntKind.wrap IntKind.i64 (sbyte s (Int.toNat (0 : Int)))) then bif decide (IntKind.wrap IntKind.i64 (sbyte s (Int.toNat (0 : Int))) < (248 : 
    Int)) then bif decide ((0 : Int) ≤ tl s (1 : Int)) then bif decide ((0 : Int) ≤ tl s (2 : Int)) then decide ((0 : Int) ≤ tl s (3 : Int)) else false else false else false else 
    false) (.br (bif decide ((65536 : Int) ≤ IntKind.wrap IntKind.i64 (IntKind.wrap IntKind.i64 (IntKind.wrap IntKind.i64 (IntKind.wrap IntKind.i64 (IntKind.wrap IntKind.i64 
    (IntKind.wrap IntKind.i64 (sbyte s (Int.toNat (0 : Int))) - (240 : Int)) * (262144 : Int)) + IntKind.wrap IntKind.i64 (tl s (1 : Int) * (4096 : Int))) + IntKind.wrap IntKind.i64 
    (tl s (2 : Int) * (64 : Int))) + tl s (3 : Int))) then decide (IntKind.wrap IntKind.i64 (IntKind.wrap IntKind.i64 (IntKind.wrap IntKind.i64 (IntKind.wrap IntKind.i64 (IntKind.wrap 
    IntKind.i64 (IntKind.wrap IntKind.i64 (sbyte s (Int.toNat (0 : Int))) - (240 : Int)) * (262144 : Int)) + IntKind.wrap IntKind.i64 (tl s (1 : Int) * (4096 : Int))) + IntKind.wrap 
    IntKind.i64 (tl s (2 : Int) * (64 : Int))) + tl s (3 : Int)) ≤ (1114111 : Int)) else false) (.leaf (Ans.mk (.tup [.v (.int .i64 (IntKind.wrap IntKind.i64 (IntKind.wrap IntKind.i64 
    (IntKind.wrap IntKind.i64 (IntKind.wrap IntKind.i64 (IntKind.wrap IntKind.i64 (IntKind.wrap IntKind.i64 (sbyte s (Int.toNat (0 : Int))) - (240 : Int)) * (262144 : Int)) + 
    IntKind.wrap IntKind.i64 (tl s (1 : Int) * (4096 : Int))) + IntKind.wrap IntKind.i64 (tl s (2 : Int) * (64 : Int))) + tl s (3 : Int)))), .v (.int .i64 (4 : Int)), .v (.bool true)]) 
    [])) (.leaf (Ans.mk (.tup [.v (.int .i64 (65533 : Int)), .v (.int .i64 (1 : Int)), .v (.bool false)]) []))) (.leaf (Ans.mk (.tup [.v (.int .i64 (65533 : Int)), .v (.int .i64 (1 : 
    Int)), .v (.bool false)]) [])))) (.br (bif decide ((240 : Int) ≤ IntKind.wrap IntKind.i64 (sbyte s (Int.toNat (0 : Int)))) then bif decide (IntKind.wrap IntKind.i64 (sbyte s 
    (Int.toNat (0 : Int))) < (248 : Int)) then bif decide ((0 : Int) ≤ tl s (1 : Int)) then bif decide ((0 : Int) ≤ tl s (2 : Int)) then decide ((0 : Int) ≤ tl s (3 : Int)) else false 
    else false else false else false) (.br (bif decide ((65536 : Int) ≤ IntKind.wrap IntKind.i64 (IntKind.wrap IntKind.i64 (IntKind.wrap IntKind.i64 (IntKind.wrap IntKind.i64 
    (IntKind.wrap IntKind.i64 (IntKind.wrap IntKind.i64 (sbyte s (Int.toNat (0 : Int))) - (240 : Int)) * (262144 : Int)) + IntKind.wrap IntKind.i64 (tl s (1 : Int) * (4096 : Int))) + 
    IntKind.wrap IntKind.i64 (tl s (2 : Int) * (64 : Int))) + tl s (3 : Int))) then decide (IntKind.wrap IntKind.i64 (IntKind.wrap IntKind.i64 (IntKind.wrap IntKind.i64 (IntKind.wrap 
    IntKind.i64 (IntKind.wrap IntKind.i64 (IntKind.wrap IntKind.i64 (sbyte s (Int.toNat (0 : Int))) - (240 : Int)) * (262144 : Int)) + IntKind.wrap IntKind.i64 (tl s (1 : Int) * (4096 
    : Int))) + IntKind.wrap IntKind.i64 (tl s (2 : Int) * (64 : Int))) + tl s (3 : Int)) ≤ (1114111 : Int)) else false) (.leaf (Ans.mk (.tup [.v (.int .i64 (IntKind.wrap IntKind.i64 
    (IntKind.wrap IntKind.i64 (IntKind.wrap IntKind.i64 (IntKind.wrap IntKind.i64 (IntKind.wrap IntKind.i64 (IntKind.wrap IntKind.i64 (sbyte s (Int.toNat (0 : Int))) - (240 : Int)) * 
    (262144 : Int)) + IntKind.wrap IntKind.i64 (tl s (1 : Int) * (4096 : Int))) + IntKind.wrap IntKind.i64 (tl s (2 : Int) * (64 : Int))) + tl s (3 : Int)))), .v (.int .i64 (4 : Int)), 
    .v (.bool true)]) [])) (.leaf (Ans.mk (.tup [.v (.int .i64 (65533 : Int)), .v (.int .i64 (1 : Int)), .v (.bool false)]) []))) (.leaf (Ans.mk (.tup [.v (.int .i64 (65533 : Int)), .v 
    (.int .i64 (1 : Int)), .v (.bool false)]) []))))) (.br (bif decide ((224 : Int) ≤ IntKind.wrap IntKind.i64 (sbyte s (Int.toNat (0 : Int)))) then bif decide (IntKind.wrap 
    IntKind.i64 (sbyte s (Int.toNat (0 : Int))) < (240 : Int)) then bif decide ((0 : Int) ≤ tl s (1 : Int)) then decide ((0 : Int) ≤ tl s (2 : Int)) else false else false else false) 
    (.br (bif decide ((2048 : Int) ≤ IntKind.wrap IntKind.i64 (IntKind.wrap IntKind.i64 (IntKind.wrap IntKind.i64 (IntKind.wrap IntKind.i64 (IntKind.wrap IntKind.i64 (sbyte s 
    (Int.toNat (0 : Int))) - (224 : Int)) * (4096 : Int)) + IntKind.wrap IntKind.i64 (tl s (1 : Int) * (64 : Int))) + tl s (2 : Int))) then bif decide (IntKind.wrap IntKind.i64 
    (IntKind.wrap IntKind.i64 (IntKind.wrap IntKind.i64 (IntKind.wrap IntKind.i64 (IntKind.wrap IntKind.i64 (sbyte s (Int.toNat (0 : Int))) - (224 : Int)) * (4096 : Int)) + 
    IntKind.wrap IntKind.i64 (tl s (1 : Int) * (64 : Int))) + tl s (2 : Int)) < (55296 : Int)) then true else decide ((57343 : Int) < IntKind.wrap IntKind.i64 (IntKind.wrap IntKind.i64 
    (IntKind.wrap IntKind.i64 (IntKind.wrap IntKind.i64 (IntKind.wrap IntKind.i64 (sbyte s (Int.toNat (0 : Int))) - (224 : Int)) * (4096 : Int)) + IntKind.wrap IntKind.i64 (tl s (1 : 
    Int) * (64 : Int))) + tl s (2 : Int))) else false) (.leaf (Ans.mk (.tup [.v (.int .i64 (IntKind.wrap IntKind.i64 (IntKind.wrap IntKind.i64 (IntKind.wrap IntKind.i64 (IntKind.wrap 
    IntKind.i64 (IntKind.wrap IntKind.i64 (sbyte s (Int.toNat (0 : Int))) - (224 : Int)) * (4096 : Int)) + IntKind.wrap IntKind.i64 (tl s (1 : Int) * (64 : Int))) + tl s (2 : Int)))), 
    .v (.int .i64 (3 : Int)), .v (.bool true)]) [])) (.br (bif decide ((240 : Int) ≤ IntKind.wrap IntKind.i64 (sbyte s (Int.toNat (0 : Int)))) then bif decide (IntKind.wrap IntKind.i64 
    (sbyte s (Int.toNat (0 : Int))) < (248 : Int)) then bif decide ((0 : Int) ≤ tl s (1 : Int)) then bif decide ((0 : Int) ≤ tl s (2 : Int)) then decide ((0 : Int) ≤ tl s (3 : Int)) 
    else false else false else false else false) (.br (bif decide ((65536 : Int) ≤ IntKind.wrap IntKind.i64 (IntKind.wrap IntKind.i64 (IntKind.wrap IntKind.i64 (IntKind.wrap 
    IntKind.i64 (IntKind.wrap IntKind.i64 (IntKind.wrap IntKind.i64 (sbyte s (Int.toNat (0 : Int))) - (240 : Int)) * (262144 : Int)) + IntKind.wrap IntKind.i64 (tl s (1 : Int) * (4096 
    : Int))) + IntKind.wrap IntKind.i64 (tl s (2 : Int) * (64 : Int))) + tl s (3 : Int))) then decide (IntKind.wrap IntKind.i64 (IntKind.wrap IntKind.i64 (IntKind.wrap IntKind.i64 
    (IntKind.wrap IntKind.i64 (IntKind.wrap IntKind.i64 (IntKind.wrap IntKind.i64 (sbyte s (Int.toNat (0 : Int))) - (240 : Int)) * (262144 : Int)) + IntKind.wrap IntKind.i64 (tl s (1 : 
    Int) * (4096 : Int))) + IntKind.wrap IntKind.i64 (tl s (2 : Int) * (64 : Int))) + tl s (3 : Int)) ≤ (1114111 : Int)) else false) (.leaf (Ans.mk (.tup [.v (.int .i64 (IntKind.wrap 
    IntKind.i64 (IntKind.wrap IntKind.i64 (IntKind.wrap IntKind.i64 (IntKind.wrap IntKind.i64 (IntKind.wrap IntKind.i64 (IntKind.wrap IntKind.i64 (sbyte s (Int.toNat (0 : Int))) - (240 
    : Int)) * (262144 : Int)) + IntKind.wrap IntKind.i64 (tl s (1 : Int) * (4096 : Int))) + IntKind.wrap IntKind.i64 (tl s (2 : Int) * (64 : Int))) + tl s (3 : Int)))), .v (.int .i64 
    (4 : Int)), .v (.bool true)]) [])) (.leaf (Ans.mk (.tup [.v (.int .i64 (65533 : Int)), .v (.int .i64 (1 : Int)), .v (.bool false)]) []))) (.leaf (Ans.mk (.tup [.v (.int .i64 (65533 
    : Int)), .v (.int .i64 (1 : Int)), .v (.bool false)]) [])))) (.br (bif decide ((240 : Int) ≤ IntKind.wrap IntKind.i64 (sbyte s (Int.toNat (0 : Int)))) then bif decide (IntKind.wrap 
    IntKind.i64 (sbyte s (Int.toNat (0 : Int))) < (248 : Int)) then bif decide ((0 : Int) ≤ tl s (1 : Int)) then bif decide ((0 : Int) ≤ tl s (2 : Int)) then decide ((0 : Int) ≤ tl s 
    (3 : Int)) else false else false else false else false) (.br (bif decide ((65536 : Int) ≤ IntKind.wrap IntKind.i64 (IntKind.wrap IntKind.i64 (IntKind.wrap IntKind.i64 (IntKind.wrap 
    IntKind.i64 (IntKind.wrap IntKind.i64 (IntKind.wrap IntKind.i64 (sbyte s (Int.toNat (0 : Int))) - (240 : Int)) * (262144 : Int)) + IntKind.wrap IntKind.i64 (tl s (1 : Int) * (4096 
    : Int))) + IntKind.wrap IntKind.i64 (tl s (2 : Int) * (64 : Int))) + tl s (3 : Int))) then decide (IntKind.wrap IntKind.i64 (IntKind.wrap IntKind.i64 (IntKind.wrap IntKind.i64 
    (IntKind.wrap IntKind.i64 (IntKind.wrap IntKind.i64 (IntKind.wrap IntKind.i64 (sbyte s (Int.toNat (0 : Int))) - (240 : Int)) * (262144 : Int)) + IntKind.wrap IntKind.i64 (tl s (1 : 
    Int) * (4096 : Int))) + IntKind.wrap IntKind.i64 (tl s (2 : Int) * (64 : Int))) + tl s (3 : Int)) ≤ (1114111 : Int)) else false) (.leaf (Ans.mk (.tup [.v (.int .i64 (IntKind.wrap 
    IntKind.i64 (IntKind.wrap IntKind.i64 (IntKind.wrap IntKind.i64 (IntKind.wrap IntKind.i64 (IntKind.wrap IntKind.i64 (IntKind.wrap IntKind.i64 (sbyte s (Int.toNat (0 : Int))) - (240 
    : Int)) * (262144 : Int)) + IntKind.wrap IntKind.i64 (tl s (1 : Int) * (4096 : Int))) + IntKind.wrap IntKind.i64 (tl s (2 : Int) * (64 : Int))) + tl s (3 : Int)))), .v (.int .i64 
    (4 : Int)), .v (.bool true)]) [])) (.leaf (Ans.mk (.tup [.v (.int .i64 (65533 : Int)), .v (.int .i64 (1 : Int)), .v (.bool false)]) []))) (.leaf (Ans.mk (.tup [.v (.int .i64 (65533 
    : Int)), .v (.int .i64 (1 : Int)), .v (.bool false)]) []))))))) := by kernel_rfl
theorem tl_nat (s : ByteArray) (k : Nat) : (k < s.size ∧ bN s k / 64 = 2 ∧ tl s (k : Int) = ((bN s k % 64 : Nat) : Int)) ∨ (¬ (k < s.size ∧ bN s k / 64 = 2) ∧ tl s (k : Int) = -1) := by
  unfold tl
  rw [Int.toNat_natCast, sbyte_bN]
  have := bN_lt s k
  split
  · exact .inl ⟨by omega, by omega, by omega⟩
  · exact .inr ⟨by omega, rfl⟩
def stV (s : ByteArray) : AV := .tup [.v (.int .i64 ((Utf8.decode s 0).1 : Int)), .v (.int .i64 ((Utf8.decode s 0).2 : Int)), .sb (okAt s 0)]
set_option maxHeartbeats 2000000 in
theorem ansStep {s : ByteArray} (h : 0 < s.size) : Answers Tryd.prog Γm 72 [.v (.string s)] [] (stV s) [] [] :=
  answers (fn := Tryd.f72) (c := bodyOf Tryd.f72) (ntmps := 111) (results := [.tmp 2, .tmp 3, .tmp 4]) [k32] Lno false Tryd.func72 (by kernel_rfl) (by kernel_rfl) (by kernel_rfl) (by kernel_rfl) (by simp) rfl (noLoops (by kernel_rfl)) <| Meets.of (run27 s) <| by
    have e0 : sbyte s (Int.toNat 0) = (bN s 0 : Int) := rfl
    have l0 := bN_lt s 0
    have t1 : _ ∨ (_ ∧ tl s 1 = -1) := tl_nat s 1
    have t2 : _ ∨ (_ ∧ tl s 2 = -1) := tl_nat s 2
    have t3 : _ ∨ (_ ∧ tl s 3 = -1) := tl_nat s 3
    have hd := decode_bN s 0
    simp only [Nat.sub_zero, Nat.zero_add] at hd
    unfold stV
    generalize tl s 1 = u1 at *
    generalize tl s 2 = u2 at *
    generalize tl s 3 = u3 at *
    rw [e0]
    generalize bN s 0 = b0 at *
    generalize bN s 1 = b1 at *
    generalize bN s 2 = b2 at *
    generalize bN s 3 = b3 at *
    have v1 : -1 ≤ u1 ∧ u1 < 64 := by omega
    have v2 : -1 ≤ u2 ∧ u2 < 64 := by omega
    have v3 : -1 ≤ u3 ∧ u3 < 64 := by omega
    simp (disch := omega) only [wrap64]
    rcases shapeN s.size b0 b1 b2 b3 with ⟨k1, k0⟩ | ⟨k1, k2, k3, k4, k0⟩ | ⟨k1, k2, k3, k4, k5, k6, k0⟩ | ⟨k1, k2, k3, k4, k5, k6, k7, k0⟩ | ⟨k0, k1, k2, k3, k4⟩ <;> rw [k0] at hd
    · rw [okAt_t hd (fun e => by have := congrArg Prod.fst e; simp only at this; omega), hd]
      repeat' (first | refine wC (by first | omega | (simp only [W1, cond_true, cond_false]; first | done | omega)) ?_ | refine wT (by first | omega | (simp only [W1, cond_true, cond_false]; first | done | omega)) ?_ | refine wF (by intro _h; first | omega | (simp only [W1, cond_true, cond_false] at _h; first | done | omega)) ?_ | (refine wS ?_ ?_ <;> intro _h <;> simp only [W1, cond_true, cond_false] at _h))
      all_goals simp only [W1, W2, owesN, owesX, owesR, cond_true, cond_false]
      repeat' (first | apply And.intro | intro _hc)
      all_goals first | exact tup3 (leI (by omega)) (leI (by omega)) (leB rfl) | exact AV.le_refl _ | exact AV.le_any _ | exact OLe.refl _ | exact OLe.none _ | exact LeH.refl _ | exact LeL.refl _ | exact AV.le.bs _ | exact AV.le.sb _ | omega | contradiction
    · rw [okAt_t hd (fun e => by have := congrArg Prod.snd e; simp only at this; omega), hd]
      repeat' (first | refine wC (by first | omega | (simp only [W1, cond_true, cond_false]; first | done | omega)) ?_ | refine wT (by first | omega | (simp only [W1, cond_true, cond_false]; first | done | omega)) ?_ | refine wF (by intro _h; first | omega | (simp only [W1, cond_true, cond_false] at _h; first | done | omega)) ?_ | (refine wS ?_ ?_ <;> intro _h <;> simp only [W1, cond_true, cond_false] at _h))
      all_goals simp only [W1, W2, owesN, owesX, owesR, cond_true, cond_false]
      repeat' (first | apply And.intro | intro _hc)
      all_goals first | exact tup3 (leI (by omega)) (leI (by omega)) (leB rfl) | exact AV.le_refl _ | exact AV.le_any _ | exact OLe.refl _ | exact OLe.none _ | exact LeH.refl _ | exact LeL.refl _ | exact AV.le.bs _ | exact AV.le.sb _ | omega | contradiction
    · rw [okAt_t hd (fun e => by have := congrArg Prod.snd e; simp only at this; omega), hd]
      repeat' (first | refine wC (by first | omega | (simp only [W1, cond_true, cond_false]; first | done | omega)) ?_ | refine wT (by first | omega | (simp only [W1, cond_true, cond_false]; first | done | omega)) ?_ | refine wF (by intro _h; first | omega | (simp only [W1, cond_true, cond_false] at _h; first | done | omega)) ?_ | (refine wS ?_ ?_ <;> intro _h <;> simp only [W1, cond_true, cond_false] at _h))
      all_goals simp only [W1, W2, owesN, owesX, owesR, cond_true, cond_false]
      repeat' (first | apply And.intro | intro _hc)
      all_goals first | exact tup3 (leI (by omega)) (leI (by omega)) (leB rfl) | exact AV.le_refl _ | exact AV.le_any _ | exact OLe.refl _ | exact OLe.none _ | exact LeH.refl _ | exact LeL.refl _ | exact AV.le.bs _ | exact AV.le.sb _ | omega | contradiction
    · rw [okAt_t hd (fun e => by have := congrArg Prod.snd e; simp only at this; omega), hd]
      repeat' (first | refine wC (by first | omega | (simp only [W1, cond_true, cond_false]; first | done | omega)) ?_ | refine wT (by first | omega | (simp only [W1, cond_true, cond_false]; first | done | omega)) ?_ | refine wF (by intro _h; first | omega | (simp only [W1, cond_true, cond_false] at _h; first | done | omega)) ?_ | (refine wS ?_ ?_ <;> intro _h <;> simp only [W1, cond_true, cond_false] at _h))
      all_goals simp only [W1, W2, owesN, owesX, owesR, cond_true, cond_false]
      repeat' (first | apply And.intro | intro _hc)
      all_goals first | exact tup3 (leI (by omega)) (leI (by omega)) (leB rfl) | exact AV.le_refl _ | exact AV.le_any _ | exact OLe.refl _ | exact OLe.none _ | exact LeH.refl _ | exact LeL.refl _ | exact AV.le.bs _ | exact AV.le.sb _ | omega | contradiction
    · rw [okAt_f hd, hd]
      repeat' (first | refine wC (by first | omega | (simp only [W1, cond_true, cond_false]; first | done | omega)) ?_ | refine wT (by first | omega | (simp only [W1, cond_true, cond_false]; first | done | omega)) ?_ | refine wF (by intro _h; first | omega | (simp only [W1, cond_true, cond_false] at _h; first | done | omega)) ?_ | (refine wS ?_ ?_ <;> intro _h <;> simp only [W1, cond_true, cond_false] at _h))
      all_goals simp only [W1, W2, owesN, owesX, owesR, cond_true, cond_false]
      repeat' (first | apply And.intro | intro _hc)
      all_goals first | exact tup3 (leI (by omega)) (leI (by omega)) (leB rfl) | exact AV.le_refl _ | exact AV.le_any _ | exact OLe.refl _ | exact OLe.none _ | exact LeH.refl _ | exact LeL.refl _ | exact AV.le.bs _ | exact AV.le.sb _ | omega | contradiction
noncomputable def k27 : CT Tryd.prog Γm := CT.oS 72 Tryd.func72 (by kernel_rfl) (by kernel_rfl) (fun s => 0 < s.size) stV (fun _ => []) (fun s h => ansStep h)
end Go.Eng.TA

namespace Go.Eng.TA
open Go Go.Eng Go.Eng.M Go.Lib Go.Proofs
structure XP where
  p : Nat
  k : Nat
theorem wrapUpN {i : Nat} (h : i ≤ 10000000000) : IntKind.wrap IntKind.i64 ((i : Int) + 1) = ((i + 1 : Nat) : Int) := by rw [wrap64E]; omega
theorem wrapAdd {i j : Nat} (h : i + j ≤ 10000000000) : IntKind.wrap IntKind.i64 ((i : Int) + (j : Int)) = ((i + j : Nat) : Int) := by rw [wrap64E]; omega
noncomputable abbrev lpCnt : Code := loopOf (bodyOf Tryd.f19) 0
def SCnt (s : ByteArray) (x : XP) : List AV × Heap := ([.v (.int .i64 (x.k : Int)), .its 0], [some (.sit s x.p)])
def OCnt (s : ByteArray) : Out := ⟨.exit 0, [.v (.int .i64 ((rns s 0).length : Int)), .any], [none]⟩
theorem rCnt (s : ByteArray) (x : XP) : roundE (P := Tryd.prog) (Γ := Γm) [] Lno false 0 0 lpCnt [3, 5] [] 11 (SCnt s x).1 (SCnt s x).2 =
  Tree.br (decide (x.p < ByteArray.size s)) (.leaf (.mk .normal [.v (.int .i64 (IntKind.wrap IntKind.i64 ((↑x.k : Int) + (1 : Int)))), AV.its (0 : Nat)] [some (Blk.sit s (x.p + (Utf8.decode 
    s x.p).snd))])) (.leaf (.mk (.exit 0) [.v (.int .i64 (↑x.k : Int)), AV.its (0 : Nat)] [some (Blk.sit s x.p)])) := by kernel_rfl
theorem loopCnt {s : ByteArray} (hs : s.size ≤ 1000000000) : ∀ x : XP, (x.p ≤ s.size ∧ x.k + (rns s x.p).length = (rns s 0).length) → LoopOK Tryd.prog Γm 0 11 lpCnt (LSpec.at [3, 5] [] (SCnt s x) (OCnt s)) := by
  refine loop_at (S := SCnt s) (O := fun _ => OCnt s) (k := 0) (fun x => s.size - x.p) fun x hp => .of (noLoops (by kernel_rfl)) (rCnt s x) ?_
  obtain ⟨p, k⟩ := x
  obtain ⟨h1, h2⟩ := hp
  have hl : (rns s 0).length ≤ s.size - 0 := rns_len
  dsimp only at h1 h2
  rcases Nat.lt_or_ge p s.size with hi | hi
  · have hst := rns_step hi
    have hd := dec_pos s p
    have hle := dec_le hi
    rw [hst, List.length_cons] at h2
    repeat' (first | refine wC (by first | omega | (simp only [W1, cond_true, cond_false, wrapUpN (show k ≤ 10000000000 by omega)]; first | done | omega)) ?_ | refine wT (by first | omega | (simp only [W1, cond_true, cond_false, wrapUpN (show k ≤ 10000000000 by omega)]; first | done | omega)) ?_ | refine wF (by intro _h; first | omega | (simp only [W1, cond_true, cond_false, wrapUpN (show k ≤ 10000000000 by omega)] at _h; first | done | omega)) ?_ | (refine wS ?_ ?_ <;> intro _h <;> simp only [W1, cond_true, cond_false, wrapUpN (show k ≤ 10000000000 by omega)] at _h))
    all_goals simp only [W1, W2, owesN, owesX, owesR, cond_true, cond_false, wrapUpN (show k ≤ 10000000000 by omega)]
    repeat' (first | apply And.intro | intro _hc)
    all_goals first | exact ⟨⟨p + (Utf8.decode s p).2, k + 1⟩, LeL.refl _, LeH.refl _, ⟨hle, by dsimp only; omega⟩, by dsimp only; omega⟩ | exact AV.le_refl _ | exact AV.le_any _ | exact OLe.refl _ | exact OLe.none _ | exact LeH.refl _ | exact LeL.refl _ | exact AV.le.bs _ | exact AV.le.sb _ | omega | contradiction
  · rw [rns_end hi, List.length_nil] at h2
    have h2 : k = (rns s 0).length := by omega
    subst h2
    repeat' (first | refine wC (by first | omega | (simp only [W1, cond_true, cond_false]; first | done | omega)) ?_ | refine wT (by first | omega | (simp only [W1, cond_true, cond_false]; first | done | omega)) ?_ | refine wF (by intro _h; first | omega | (simp only [W1, cond_true, cond_false] at _h; first | done | omega)) ?_ | (refine wS ?_ ?_ <;> intro _h <;> simp only [W1, cond_true, cond_false] at _h))
    all_goals simp only [W1, W2, owesN, owesX, owesR, cond_true, cond_false]
    repeat' (first | apply And.intro | intro _hc)
    all_goals first | exact rfl | exact AV.le_refl _ | exact AV.le_any _ | exact OLe.refl _ | exact OLe.none _ | exact LeH.refl _ | exact LeL.refl _ | exact AV.le.bs _ | exact AV.le.sb _ | omega | contradiction
theorem runCnt (s : ByteArray) : bodyE (P := Tryd.prog) (Γ := Γm) [] (fun _ => LSpec.at [3, 5] [] (SCnt s ⟨0, 0⟩) (OCnt s)) false 11 [.tmp 2] (bodyOf Tryd.f19) [.v (.string s)] [] =
  Tree.chk (cl (LeL [.v (.int .i64 (0 : Int)), AV.its (0 : Nat)] [.v (.int .i64 (↑(0 : Nat) : Int)), AV.its (0 : Nat)] ∧ LeH [some (Blk.sit s (0 : Nat))] [some (Blk.sit s (0 : Nat))])) (.leaf 
    (Ans.mk (.v (.int .i64 (↑(List.length (rns s (0 : Nat))) : Int))) [])) := by kernel_rfl
theorem ansCnt {s : ByteArray} (hs : s.size ≤ 1000000000) : Answers Tryd.prog Γm 19 [.v (.string s)] [] (.v (.int .i64 ((rns s 0).length : Int))) [] [] :=
  answers (fn := Tryd.f19) (c := bodyOf Tryd.f19) (ntmps := 11) (results := [.tmp 2]) [] (fun _ => LSpec.at [3, 5] [] (SCnt s ⟨0, 0⟩) (OCnt s)) false Tryd.func19 (by kernel_rfl) (by kernel_rfl) (by kernel_rfl) (by kernel_rfl) (by simp) rfl (oneLoop (b := lpCnt) (by kernel_rfl) (loopCnt hs ⟨0, 0⟩ ⟨Nat.zero_le _, Nat.zero_add _⟩)) <| Meets.of (runCnt s) <| by
    repeat' (first | refine wC (by first | omega | (simp only [W1, cond_true, cond_false]; first | done | omega)) ?_ | refine wT (by first | omega | (simp only [W1, cond_true, cond_false]; first | done | omega)) ?_ | refine wF (by intro _h; first | omega | (simp only [W1, cond_true, cond_false] at _h; first | done | omega)) ?_ | (refine wS ?_ ?_ <;> intro _h <;> simp only [W1, cond_true, cond_false] at _h))
    all_goals simp only [W1, W2, owesN, owesX, owesR, cond_true, cond_false]
    repeat' (first | apply And.intro | intro _hc)
    all_goals first | exact AV.le_refl _ | exact AV.le_any _ | exact OLe.refl _ | exact OLe.none _ | exact LeH.refl _ | exact LeL.refl _ | exact AV.le.bs _ | exact AV.le.sb _ | omega | contradiction
noncomputable def kCnt : CT Tryd.prog Γm := CT.oS 19 Tryd.func19 (by kernel_rfl) (by kernel_rfl) (fun s => s.size ≤ 1000000000) (fun s => .v (.int .i64 ((rns s 0).length : Int))) (fun _ => []) (fun s h => ansCnt h)
def cutP (s : ByteArray) (n : Int) : Nat := adv s n.toNat 0
noncomputable abbrev lpCut : Code := loopOf (bodyOf Tryd.f17) 0
abbrev E0 : ByteArray := ⟨#[]⟩
abbrev lvCut : List Nat := [0, 1, 6, 9, 4, 5]
def SCut (s : ByteArray) (n : Int) (x : XP) : List AV × Heap := ([.v (.string s), .v (.int .i64 n), .v (.int .i64 (x.k : Int)), .its 0, .any, .any], [some (.sit s x.p)])
def retCut (s : ByteArray) (q : Nat) : Out := ⟨.ret, [.any, .any, .any, .any, .v (.string (s.extract 0 q)), .v (.string (s.extract q s.size))], [none]⟩
def endCut (s : ByteArray) : Out := ⟨.exit 0, [.v (.string s), .any, .any, .any, .any, .any], [none]⟩
def OCut (s : ByteArray) (q : Nat) : Out := if q < s.size then retCut s q else endCut s
theorem rCut (s : ByteArray) (n : Int) (x : XP) : roundE (P := Tryd.prog) (Γ := Γm) [] Lno false 0 0 lpCut lvCut [] 25 (SCut s n x).1 (SCut s n x).2 =
  Tree.br (decide (x.p < ByteArray.size s)) (.br (decide (n ≤ (↑x.k : Int))) (.chk (decide ((↑(0 : Nat) : Int) ≤ (↑x.p : Int)) && decide ((↑x.p : Int) ≤ (↑(ByteArray.size s) : Int)) && 
    (decide ((0 : Int) ≤ (↑x.p : Int)) && decide ((↑x.p : Int) ≤ (↑(ByteArray.size s) : Int)) && decide ((↑(ByteArray.size s) : Int) ≤ (↑(ByteArray.size s) : Int)))) (.leaf (.mk .ret 
    [.v (.string s), .v (.int .i64 n), .v (.int .i64 (↑x.k : Int)), AV.its (0 : Nat), .v (.string (ByteArray.extract s (0 : Nat) x.p)), .v (.string (ByteArray.extract s x.p 
    (ByteArray.size s)))] [some (Blk.sit s (x.p + (Utf8.decode s x.p).snd))]))) (.leaf (.mk .normal [.v (.string s), .v (.int .i64 n), .v (.int .i64 (IntKind.wrap IntKind.i64 ((↑x.k : 
    Int) + (1 : Int)))), AV.its (0 : Nat), .any, .any] [some (Blk.sit s (x.p + (Utf8.decode s x.p).snd))]))) (.leaf (.mk (.exit 0) [.v (.string s), .v (.int .i64 n), .v (.int .i64 
    (↑x.k : Int)), AV.its (0 : Nat), .any, .any] [some (Blk.sit s x.p)])) := by kernel_rfl
theorem loopCut {s : ByteArray} {n : Int} {q : Nat} (hs : s.size ≤ 1000000000) : ∀ x : XP, (x.p ≤ s.size ∧ x.k ≤ x.p ∧ adv s (n.toNat - x.k) x.p = q) → LoopOK Tryd.prog Γm 0 25 lpCut (LSpec.at lvCut [] (SCut s n x) (OCut s q)) := by
  refine loop_at (S := SCut s n) (O := fun _ => OCut s q) (k := 0) (fun x => s.size - x.p) fun x hp => .of (noLoops (by kernel_rfl)) (rCut s n x) ?_
  obtain ⟨p, k⟩ := x
  obtain ⟨h1, h2, h3⟩ := hp
  dsimp only at h1 h2 h3
  rcases Nat.lt_or_ge p s.size with hi | hi
  · have hd := dec_pos s p
    have hle := dec_le hi
    by_cases hk : n ≤ (k : Int)
    · rw [show n.toNat - k = 0 by omega] at h3
      obtain rfl : p = q := h3
      rw [show OCut s p = retCut s p from if_pos hi]
      repeat' (first | refine wC (by first | omega | (simp only [W1, cond_true, cond_false]; first | done | omega)) ?_ | refine wT (by first | omega | (simp only [W1, cond_true, cond_false]; first | done | omega)) ?_ | refine wF (by intro _h; first | omega | (simp only [W1, cond_true, cond_false] at _h; first | done | omega)) ?_ | (refine wS ?_ ?_ <;> intro _h <;> simp only [W1, cond_true, cond_false] at _h))
      all_goals simp only [W1, W2, owesN, owesX, owesR, cond_true, cond_false]
      repeat' (first | apply And.intro | intro _hc)
      all_goals first | exact rfl | exact AV.le_refl _ | exact AV.le_any _ | exact OLe.refl _ | exact OLe.none _ | exact LeH.refl _ | exact LeL.refl _ | exact AV.le.bs _ | exact AV.le.sb _ | omega | contradiction
    · rw [adv_step hi (by omega)] at h3
      repeat' (first | refine wC (by first | omega | (simp only [W1, cond_true, cond_false, wrapUpN (show k ≤ 10000000000 by omega)]; first | done | omega)) ?_ | refine wT (by first | omega | (simp only [W1, cond_true, cond_false, wrapUpN (show k ≤ 10000000000 by omega)]; first | done | omega)) ?_ | refine wF (by intro _h; first | omega | (simp only [W1, cond_true, cond_false, wrapUpN (show k ≤ 10000000000 by omega)] at _h; first | done | omega)) ?_ | (refine wS ?_ ?_ <;> intro _h <;> simp only [W1, cond_true, cond_false, wrapUpN (show k ≤ 10000000000 by omega)] at _h))
      all_goals simp only [W1, W2, owesN, owesX, owesR, cond_true, cond_false, wrapUpN (show k ≤ 10000000000 by omega)]
      repeat' (first | apply And.intro | intro _hc)
      all_goals first | exact ⟨⟨p + (Utf8.decode s p).2, k + 1⟩, LeL.refl _, LeH.refl _, ⟨hle, by dsimp only; omega, by dsimp only; rw [← h3]; congr 1⟩, by dsimp only; omega⟩ | exact AV.le_refl _ | exact AV.le_any _ | exact OLe.refl _ | exact OLe.none _ | exact LeH.refl _ | exact LeL.refl _ | exact AV.le.bs _ | exact AV.le.sb _ | omega | contradiction
  · rw [adv_end hi] at h3
    subst h3
    rw [show OCut s p = endCut s from if_neg (by omega)]
    repeat' (first | refine wC (by first | omega | (simp only [W1, cond_true, cond_false]; first | done | omega)) ?_ | refine wT (by first | omega | (simp only [W1, cond_true, cond_false]; first | done | omega)) ?_ | refine wF (by intro _h; first | omega | (simp only [W1, cond_true, cond_false] at _h; first | done | omega)) ?_ | (refine wS ?_ ?_ <;> intro _h <;> simp only [W1, cond_true, cond_false] at _h))
    all_goals simp only [W1, W2, owesN, owesX, owesR, cond_true, cond_false]
    repeat' (first | apply And.intro | intro _hc)
    all_goals first | exact rfl | exact AV.le_refl _ | exact AV.le_any _ | exact OLe.refl _ | exact OLe.none _ | exact LeH.refl _ | exact LeL.refl _ | exact AV.le.bs _ | exact AV.le.sb _ | omega | contradiction
theorem runCutR (s : ByteArray) (n : Int) (q : Nat) : bodyE (P := Tryd.prog) (Γ := Γm) [] (fun _ => LSpec.at lvCut [] (SCut s n ⟨0, 0⟩) (retCut s q)) false 25 [.tmp 4, .tmp 5] (bodyOf Tryd.f17) [.v (.string s), .v (.int .i64 n)] [] =
  Tree.chk (cl (LeL [.v (.string s), .v (.int .i64 n), .v (.int .i64 (0 : Int)), AV.its (0 : Nat), .v (.string (ByteArray.mk #[])), .v (.string (ByteArray.mk #[]))] [.v (.string s), .v (.int 
    .i64 n), .v (.int .i64 (↑(0 : Nat) : Int)), AV.its (0 : Nat), .any, .any] ∧ LeH [some (Blk.sit s (0 : Nat))] [some (Blk.sit s (0 : Nat))])) (.leaf (Ans.mk (.tup [.v (.string 
    (ByteArray.extract s (0 : Nat) q)), .v (.string (ByteArray.extract s q (ByteArray.size s)))]) [])) := by kernel_rfl
theorem runCutE (s : ByteArray) (n : Int) : bodyE (P := Tryd.prog) (Γ := Γm) [] (fun _ => LSpec.at lvCut [] (SCut s n ⟨0, 0⟩) (endCut s)) false 25 [.tmp 4, .tmp 5] (bodyOf Tryd.f17) [.v (.string s), .v (.int .i64 n)] [] =
  Tree.chk (cl (LeL [.v (.string s), .v (.int .i64 n), .v (.int .i64 (0 : Int)), AV.its (0 : Nat), .v (.string (ByteArray.mk #[])), .v (.string (ByteArray.mk #[]))] [.v (.string s), .v (.int 
    .i64 n), .v (.int .i64 (↑(0 : Nat) : Int)), AV.its (0 : Nat), .any, .any] ∧ LeH [some (Blk.sit s (0 : Nat))] [some (Blk.sit s (0 : Nat))])) (.leaf (Ans.mk (.tup [.v (.string s), .v 
    (.string (ByteArray.mk #[]))]) [])) := by kernel_rfl
def cutV (x : ByteArray × Int) : AV := .tup [.v (.string (x.1.extract 0 (cutP x.1 x.2))), .v (.string (x.1.extract (cutP x.1 x.2) x.1.size))]
theorem cutP_le {s : ByteArray} {n : Int} : cutP s n ≤ s.size := adv_le (Nat.zero_le _)
theorem ansCut {s : ByteArray} {n : Int} (hs : s.size ≤ 1000000000) : Answers Tryd.prog Γm 17 [.v (.string s), .v (.int .i64 n)] [] (cutV (s, n)) [] [] := by
  have hl := loopCut (n := n) (q := cutP s n) hs ⟨0, 0⟩ ⟨Nat.zero_le _, Nat.le_refl _, rfl⟩
  have hq := cutP_le (s := s) (n := n)
  unfold OCut at hl
  by_cases h : cutP s n < s.size
  · rw [if_pos h] at hl
    refine answers (fn := Tryd.f17) (c := bodyOf Tryd.f17) (ntmps := 25) (results := [.tmp 4, .tmp 5]) [] (fun _ => LSpec.at lvCut [] (SCut s n ⟨0, 0⟩) (retCut s (cutP s n))) false Tryd.func17 (by kernel_rfl) (by kernel_rfl) (by kernel_rfl) (by kernel_rfl) (by simp) rfl (oneLoop (b := lpCut) (by kernel_rfl) hl) <| Meets.of (runCutR s n (cutP s n)) <| ?_
    repeat' (first | refine wC (by first | omega | (simp only [W1, cond_true, cond_false]; first | done | omega)) ?_ | refine wT (by first | omega | (simp only [W1, cond_true, cond_false]; first | done | omega)) ?_ | refine wF (by intro _h; first | omega | (simp only [W1, cond_true, cond_false] at _h; first | done | omega)) ?_ | (refine wS ?_ ?_ <;> intro _h <;> simp only [W1, cond_true, cond_false] at _h))
    all_goals simp only [W1, W2, owesN, owesX, owesR, cond_true, cond_false]
    repeat' (first | apply And.intro | intro _hc)
    all_goals first | exact AV.le_refl _ | exact AV.le_any _ | exact OLe.refl _ | exact OLe.none _ | exact LeH.refl _ | exact LeL.refl _ | exact AV.le.bs _ | exact AV.le.sb _ | omega | contradiction
  · rw [if_neg h] at hl
    have h : cutP s n = s.size := by omega
    refine answers (fn := Tryd.f17) (c := bodyOf Tryd.f17) (ntmps := 25) (results := [.tmp 4, .tmp 5]) [] (fun _ => LSpec.at lvCut [] (SCut s n ⟨0, 0⟩) (endCut s)) false Tryd.func17 (by kernel_rfl) (by kernel_rfl) (by kernel_rfl) (by kernel_rfl) (by simp) rfl (oneLoop (b := lpCut) (by kernel_rfl) hl) <| Meets.of (runCutE s n) <| ?_
    unfold cutV
    dsimp only
    rw [h, ext_all, ext_none]
    repeat' (first | refine wC (by first | omega | (simp only [W1, cond_true, cond_false]; first | done | omega)) ?_ | refine wT (by first | omega | (simp only [W1, cond_true, cond_false]; first | done | omega)) ?_ | refine wF (by intro _h; first | omega | (simp only [W1, cond_true, cond_false] at _h; first | done | omega)) ?_ | (refine wS ?_ ?_ <;> intro _h <;> simp only [W1, cond_true, cond_false] at _h))
    all_goals simp only [W1, W2, owesN, owesX, owesR, cond_true, cond_false]
    repeat' (first | apply And.intro | intro _hc)
    all_goals first | exact AV.le_refl _ | exact AV.le_any _ | exact OLe.refl _ | exact OLe.none _ | exact LeH.refl _ | exact LeL.refl _ | exact AV.le.bs _ | exact AV.le.sb _ | omega | contradiction
noncomputable def kCut : CT Tryd.prog Γm := CT.oSI 17 Tryd.func17 (by kernel_rfl) (by kernel_rfl) (fun x => x.1.size ≤ 1000000000) cutV (fun _ => []) (fun x h => ansCut h)
noncomputable abbrev lpCutR : Code := loopOf (bodyOf Tryd.f18) 0
def SCutR (s : ByteArray) (n : Int) (x : XP) : List AV × Heap := ([.v (.string s), .v (.int .i64 n), .v (.int .i64 (x.p : Int)), .v (.int .i64 (x.k : Int))], [])
def OCutR (s : ByteArray) (q : Nat) : Out := ⟨.exit 0, [.v (.string s), .any, .v (.int .i64 (q : Int)), .any], []⟩
theorem rCutD (s : ByteArray) (n : Int) (x : XP) : roundE (P := Tryd.prog) (Γ := Γm) [k27] Lno false 0 0 lpCutR [0, 1, 6, 7] [] 39 (SCutR s n x).1 (SCutR s n x).2 =
  Tree.br (bif decide ((↑x.k : Int) < n) then decide ((↑x.p : Int) < (↑(ByteArray.size s) : Int)) else false) (.chk (decide ((0 : Int) ≤ (↑x.p : Int)) && decide ((↑x.p : Int) ≤ 
    (↑(ByteArray.size s) : Int)) && decide ((↑(ByteArray.size s) : Int) ≤ (↑(ByteArray.size s) : Int)) && cl ((0 : Nat) < ByteArray.size (ByteArray.extract s x.p (ByteArray.size s)) ∧ 
    LeL [.v (.string (ByteArray.extract s x.p (ByteArray.size s)))] [.v (.string (ByteArray.extract s x.p (ByteArray.size s)))] ∧ LeH [] [])) (.leaf (.mk .normal [.v (.string s), .v 
    (.int .i64 n), .v (.int .i64 (IntKind.wrap IntKind.i64 ((↑x.p : Int) + (↑(Utf8.decode (ByteArray.extract s x.p (ByteArray.size s)) (0 : Nat)).snd : Int)))), .v (.int .i64 
    (IntKind.wrap IntKind.i64 ((↑x.k : Int) + (1 : Int))))] []))) (.leaf (.mk (.exit 0) [.v (.string s), .v (.int .i64 n), .v (.int .i64 (↑x.p : Int)), .v (.int .i64 (↑x.k : Int))] 
    [])) := by kernel_rfl
theorem loopCutR {s : ByteArray} {n : Int} {q : Nat} (hs : s.size ≤ 1000000000) : ∀ x : XP, (x.p ≤ s.size ∧ x.k ≤ x.p ∧ adv s (n.toNat - x.k) x.p = q) → LoopOK Tryd.prog Γm 0 39 lpCutR (LSpec.at [0, 1, 6, 7] [] (SCutR s n x) (OCutR s q)) := by
  refine loop_at (S := SCutR s n) (O := fun _ => OCutR s q) (k := 0) (fun x => s.size - x.p) fun x hp => .of (noLoops (by kernel_rfl)) (rCutD s n x) ?_
  obtain ⟨p, k⟩ := x
  obtain ⟨h1, h2, h3⟩ := hp
  dsimp only at h1 h2 h3
  rcases Nat.lt_or_ge p s.size with hi | hi
  · have hd := dec_pos s p
    have hle := dec_le hi
    have hz : (s.extract p s.size).size = s.size - p := ext_size _ _ _ (Nat.le_refl _)
    by_cases hk : n ≤ (k : Int)
    · rw [show n.toNat - k = 0 by omega] at h3
      obtain rfl : p = q := h3
      repeat' (first | refine wC (by first | omega | (simp only [W1, cond_true, cond_false]; first | done | omega)) ?_ | refine wT (by first | omega | (simp only [W1, cond_true, cond_false]; first | done | omega)) ?_ | refine wF (by intro _h; first | omega | (simp only [W1, cond_true, cond_false] at _h; first | done | omega)) ?_ | (refine wS ?_ ?_ <;> intro _h <;> simp only [W1, cond_true, cond_false] at _h))
      all_goals simp only [W1, W2, owesN, owesX, owesR, cond_true, cond_false]
      repeat' (first | apply And.intro | intro _hc)
      all_goals first | exact rfl | exact AV.le_refl _ | exact AV.le_any _ | exact OLe.refl _ | exact OLe.none _ | exact LeH.refl _ | exact LeL.refl _ | exact AV.le.bs _ | exact AV.le.sb _ | omega | contradiction
    · rw [adv_step hi (by omega)] at h3
      repeat' (first | refine wC (by first | omega | (simp only [W1, cond_true, cond_false, wrapUpN (show k ≤ 10000000000 by omega), hz, dec_ext h1, wrapAdd (show p + (Utf8.decode s p).2 ≤ 10000000000 by omega)]; first | done | omega)) ?_ | refine wT (by first | omega | (simp only [W1, cond_true, cond_false, wrapUpN (show k ≤ 10000000000 by omega), hz, dec_ext h1, wrapAdd (show p + (Utf8.decode s p).2 ≤ 10000000000 by omega)]; first | done | omega)) ?_ | refine wF (by intro _h; first | omega | (simp only [W1, cond_true, cond_false, wrapUpN (show k ≤ 10000000000 by omega), hz, dec_ext h1, wrapAdd (show p + (Utf8.decode s p).2 ≤ 10000000000 by omega)] at _h; first | done | omega)) ?_ | (refine wS ?_ ?_ <;> intro _h <;> simp only [W1, cond_true, cond_false, wrapUpN (show k ≤ 10000000000 by omega), hz, dec_ext h1, wrapAdd (show p + (Utf8.decode s p).2 ≤ 10000000000 by omega)] at _h))
      all_goals simp only [W1, W2, owesN, owesX, owesR, cond_true, cond_false, wrapUpN (show k ≤ 10000000000 by omega), hz, dec_ext h1, wrapAdd (show p + (Utf8.decode s p).2 ≤ 10000000000 by omega)]
      repeat' (first | apply And.intro | intro _hc)
      all_goals first | exact ⟨⟨p + (Utf8.decode s p).2, k + 1⟩, LeL.refl _, LeH.refl _, ⟨hle, by dsimp only; omega, by dsimp only; rw [← h3]; congr 1⟩, by dsimp only; omega⟩ | exact AV.le_refl _ | exact AV.le_any _ | exact OLe.refl _ | exact OLe.none _ | exact LeH.refl _ | exact LeL.refl _ | exact AV.le.bs _ | exact AV.le.sb _ | omega | contradiction
  · rw [adv_end hi] at h3
    subst h3
    obtain rfl : p = s.size := by omega
    repeat' (first | refine wC (by first | omega | (simp only [W1, cond_true, cond_false]; first | done | omega)) ?_ | refine wT (by first | omega | (simp only [W1, cond_true, cond_false]; first | done | omega)) ?_ | refine wF (by intro _h; first | omega | (simp only [W1, cond_true, cond_false] at _h; first | done | omega)) ?_ | (refine wS ?_ ?_ <;> intro _h <;> simp only [W1, cond_true, cond_false] at _h))
    all_goals simp only [W1, W2, owesN, owesX, owesR, cond_true, cond_false]
    repeat' (first | apply And.intro | intro _hc)
    all_goals first | exact rfl | exact AV.le_refl _ | exact AV.le_any _ | exact OLe.refl _ | exact OLe.none _ | exact LeH.refl _ | exact LeL.refl _ | exact AV.le.bs _ | exact AV.le.sb _ | omega | contradiction
theorem runCutD (s : ByteArray) (n : Int) (q : Nat) : bodyE (P := Tryd.prog) (Γ := Γm) [k27] (fun _ => LSpec.at [0, 1, 6, 7] [] (SCutR s n ⟨0, 0⟩) (OCutR s q)) false 39 [.tmp 4, .tmp 5] (bodyOf Tryd.f18) [.v (.string s), .v (.int .i64 n)] [] =
  Tree.chk (cl (LeL [.v (.string s), .v (.int .i64 n), .v (.int .i64 (0 : Int)), .v (.int .i64 (0 : Int))] [.v (.string s), .v (.int .i64 n), .v (.int .i64 (↑(0 : Nat) : Int)), .v (.int .i64 
    (↑(0 : Nat) : Int))] ∧ LeH [] [])) (.chk (decide ((↑(0 : Nat) : Int) ≤ (↑q : Int)) && decide ((↑q : Int) ≤ (↑(ByteArray.size s) : Int)) && (decide ((0 : Int) ≤ (↑q : Int)) && 
    decide ((↑q : Int) ≤ (↑(ByteArray.size s) : Int)) && decide ((↑(ByteArray.size s) : Int) ≤ (↑(ByteArray.size s) : Int)))) (.leaf (Ans.mk (.tup [.v (.string (ByteArray.extract s (0 
    : Nat) q)), .v (.string (ByteArray.extract s q (ByteArray.size s)))]) []))) := by kernel_rfl
theorem ansCutR {s : ByteArray} {n : Int} (hs : s.size ≤ 1000000000) : Answers Tryd.prog Γm 18 [.v (.string s), .v (.int .i64 n)] [] (cutV (s, n)) [] [] := by
  have hl := loopCutR (n := n) (q := cutP s n) hs ⟨0, 0⟩ ⟨Nat.zero_le _, Nat.le_refl _, rfl⟩
  have hq := cutP_le (s := s) (n := n)
  refine answers (fn := Tryd.f18) (c := bodyOf Tryd.f18) (ntmps := 39) (results := [.tmp 4, .tmp 5]) [k27] (fun _ => LSpec.at [0, 1, 6, 7] [] (SCutR s n ⟨0, 0⟩) (OCutR s (cutP s n))) false Tryd.func18 (by kernel_rfl) (by kernel_rfl) (by kernel_rfl) (by kernel_rfl) (by simp) rfl (oneLoop (b := lpCutR) (by kernel_rfl) hl) <| Meets.of (runCutD s n (cutP s n)) <| ?_
  repeat' (first | refine wC (by first | omega | (simp only [W1, cond_true, cond_false]; first | done | omega)) ?_ | refine wT (by first | omega | (simp only [W1, cond_true, cond_false]; first | done | omega)) ?_ | refine wF (by intro _h; first | omega | (simp only [W1, cond_true, cond_false] at _h; first | done | omega)) ?_ | (refine wS ?_ ?_ <;> intro _h <;> simp only [W1, cond_true, cond_false] at _h))
  all_goals simp only [W1, W2, owesN, owesX, owesR, cond_true, cond_false]
  repeat' (first | apply And.intro | intro _hc)
  all_goals first | exact AV.le_refl _ | exact AV.le_any _ | exact OLe.refl _ | exact OLe.none _ | exact LeH.refl _ | exact LeL.refl _ | exact AV.le.bs _ | exact AV.le.sb _ | omega | contradiction
noncomputable def kCutR : CT Tryd.prog Γm := CT.oSI 18 Tryd.func18 (by kernel_rfl) (by kernel_rfl) (fun x => x.1.size ≤ 1000000000) cutV (fun _ => []) (fun x h => ansCutR h)
end Go.Eng.TA

namespace Go.Eng.TA
open Go Go.Eng Go.Eng.M Go.Lib Go.Proofs
def I1.c (n : Nat) : List AV := [.v (.int .i64 (n : Int))]
theorem i1Cod : Cod I1.c 1 := ⟨fun _ => rfl, fun b x y => by cases b <;> rfl⟩
abbrev i1B (l : List Nat) : Blk := .arr 1 l.length (lsF I1.c l)
theorem room8 {n : Nat} (h : n ≤ 1000000000) : roomOk 8 n = true := by
  unfold roomOk
  exact decide_eq_true (by omega)
structure XR where
  p : Nat
  l : List Nat
  a : Bool
noncomputable abbrev lpRun : Code := loopOf (bodyOf Tryd.f16) 0
abbrev nlRun : List (Nat × TypeId) := [(1, 3)]
def SRun (s : ByteArray) (x : XR) : List AV × Heap := ([.v (.string (s.extract x.p s.size)), .hs 0 0 x.l.length, .sb x.a], [some (i1B x.l)])
def ORun (s : ByteArray) : Out := ⟨.exit 0, [.any, .hs 0 0 (rns s 0).length, .sb (good s 0)], [some (i1B (rns s 0))]⟩
theorem rRun (s : ByteArray) (x : XR) : roundE (P := Tryd.prog) (Γ := Γm) [k27] Lno false 0 0 lpRun [0, 4, 5] nlRun 31 (SRun s x).1 (SRun s x).2 =
  Tree.br (decide ((0 : Int) < (↑(ByteArray.size (ByteArray.extract s x.p (ByteArray.size s))) : Int))) (.chk (cl ((0 : Nat) < ByteArray.size (ByteArray.extract s x.p (ByteArray.size s)) ∧ 
    LeL [.v (.string (ByteArray.extract s x.p (ByteArray.size s)))] [.v (.string (ByteArray.extract s x.p (ByteArray.size s)))] ∧ LeH [] [])) (.chk (roomOk (8 : Nat) (List.length x.l + 
    (1 : Nat))) (.chk (decide ((0 : Int) ≤ (↑(Utf8.decode (ByteArray.extract s x.p (ByteArray.size s)) (0 : Nat)).snd : Int)) && decide ((↑(Utf8.decode (ByteArray.extract s x.p 
    (ByteArray.size s)) (0 : Nat)).snd : Int) ≤ (↑(ByteArray.size (ByteArray.extract s x.p (ByteArray.size s))) : Int)) && decide ((↑(ByteArray.size (ByteArray.extract s x.p 
    (ByteArray.size s))) : Int) ≤ (↑(ByteArray.size (ByteArray.extract s x.p (ByteArray.size s))) : Int))) (.leaf (.mk .normal [.v (.string (ByteArray.extract (ByteArray.extract s x.p 
    (ByteArray.size s)) (Utf8.decode (ByteArray.extract s x.p (ByteArray.size s)) (0 : Nat)).snd (ByteArray.size (ByteArray.extract s x.p (ByteArray.size s))))), .hs 0 0 (List.length 
    x.l + (1 : Nat)), .sb (bif x.a then okAt (ByteArray.extract s x.p (ByteArray.size s)) (0 : Nat) else false)] [some (.arr 1 (List.length x.l + (1 : Nat)) fun j => mixL (decide (j < 
    List.length x.l)) (lsF I1.c x.l ((0 : Nat) + j)) (chain [.v (.int .i64 (0 : Int))] (0 : Nat) [[.v (.int .i64 (↑(Utf8.decode (ByteArray.extract s x.p (ByteArray.size s)) (0 : 
    Nat)).fst : Int))]] ((0 : Nat) + (j - List.length x.l))))]))))) (.leaf (.mk (.exit 0) [.v (.string (ByteArray.extract s x.p (ByteArray.size s))), .hs 0 0 (List.length x.l), .sb 
    x.a] [some (.arr 1 (List.length x.l) (lsF I1.c x.l))])) := by kernel_rfl
theorem loopRun {s : ByteArray} (hs : s.size ≤ 100000000) : ∀ x : XR, (x.p ≤ s.size ∧ x.l ++ rns s x.p = rns s 0 ∧ (x.a && good s x.p) = good s 0) → LoopOK Tryd.prog Γm 0 31 lpRun (LSpec.at [0, 4, 5] nlRun (SRun s x) (ORun s)) := by
  refine loop_at (S := SRun s) (O := fun _ => ORun s) (k := 0) (fun x => s.size - x.p) fun x hp => .of (noLoops (by kernel_rfl)) (rRun s x) ?_
  obtain ⟨p, l, a⟩ := x
  obtain ⟨h1, h2, h3⟩ := hp
  dsimp only at h1 h2 h3
  have hln : (rns s 0).length ≤ s.size - 0 := rns_len
  have hll : l.length ≤ (rns s 0).length := by rw [← h2]; simp
  have hz : (s.extract p s.size).size = s.size - p := ext_size _ _ _ (Nat.le_refl _)
  rcases Nat.lt_or_ge p s.size with hi | hi
  · have hd := dec_pos s p
    have hle := dec_le hi
    rw [rns_step hi] at h2
    rw [good_ok hi] at h3
    have hx : (s.extract p s.size).extract (Utf8.decode s p).2 (s.size - p) = s.extract (p + (Utf8.decode s p).2) s.size := ext_ext hle hz.symm
    repeat' (first | refine wC (by first | omega | (simp only [W1, cond_true, cond_false, hz, dec_ext h1, okAt_ext h1, hx]; first | done | omega)) ?_ | refine wT (by first | omega | (simp only [W1, cond_true, cond_false, hz, dec_ext h1, okAt_ext h1, hx]; first | done | omega)) ?_ | refine wF (by intro _h; first | omega | (simp only [W1, cond_true, cond_false, hz, dec_ext h1, okAt_ext h1, hx] at _h; first | done | omega)) ?_ | (refine wS ?_ ?_ <;> intro _h <;> simp only [W1, cond_true, cond_false, hz, dec_ext h1, okAt_ext h1, hx] at _h))
    all_goals simp only [W1, W2, owesN, owesX, owesR, cond_true, cond_false, hz, dec_ext h1, okAt_ext h1, hx]
    repeat' (first | apply And.intro | intro _hc)
    all_goals first | exact room8 (by omega) | exact ⟨⟨p + (Utf8.decode s p).2, l ++ [(Utf8.decode s p).1], a && okAt s p⟩, ⟨AV.le_refl _, by (rw [List.length_append]; exact AV.le_refl _), leB' (by cases a <;> rfl), trivial⟩, ⟨i1Cod.app0 l _ default rfl (by simp), trivial⟩, ⟨hle, by dsimp only; rw [← h2]; simp, by dsimp only; rw [← h3, Bool.and_assoc]⟩, by dsimp only; omega⟩ | exact AV.le_refl _ | exact AV.le_any _ | exact OLe.refl _ | exact OLe.none _ | exact LeH.refl _ | exact LeL.refl _ | exact AV.le.bs _ | exact AV.le.sb _ | omega | contradiction
  · obtain rfl : p = s.size := by omega
    rw [rns_end (Nat.le_refl _), List.append_nil] at h2
    rw [good_end (Nat.le_refl _), Bool.and_true] at h3
    subst h2
    subst h3
    repeat' (first | refine wC (by first | omega | (simp only [W1, cond_true, cond_false, hz]; first | done | omega)) ?_ | refine wT (by first | omega | (simp only [W1, cond_true, cond_false, hz]; first | done | omega)) ?_ | refine wF (by intro _h; first | omega | (simp only [W1, cond_true, cond_false, hz] at _h; first | done | omega)) ?_ | (refine wS ?_ ?_ <;> intro _h <;> simp only [W1, cond_true, cond_false, hz] at _h))
    all_goals simp only [W1, W2, owesN, owesX, owesR, cond_true, cond_false, hz]
    repeat' (first | apply And.intro | intro _hc)
    all_goals first | exact rfl | exact AV.le_refl _ | exact AV.le_any _ | exact OLe.refl _ | exact OLe.none _ | exact LeH.refl _ | exact LeL.refl _ | exact AV.le.bs _ | exact AV.le.sb _ | omega | contradiction
theorem runRun (s : ByteArray) : bodyE (P := Tryd.prog) (Γ := Γm) [k27] (fun _ => LSpec.at [0, 4, 5] nlRun (SRun s ⟨0, [], true⟩) (ORun s)) false 31 [.tmp 2, .tmp 3] (bodyOf Tryd.f16) [.v (.string s)] [] =
  Tree.chk (cl (LeL [.v (.string s), .hs 0 0 (0 : Nat), .v (.bool true)] [.v (.string (ByteArray.extract s (0 : Nat) (ByteArray.size s))), .hs 0 0 (0 : Nat), .sb true] ∧ LeH [some (.arr 1 (0 
    : Nat) fun x => [.v (.int .i64 (0 : Int))])] [some (.arr 1 (0 : Nat) (lsF I1.c (XR.mk (0 : Nat) [] true).l))])) (.leaf (Ans.mk (.tup [.hs 0 0 (List.length (rns s (0 : Nat))), .sb 
    (good s (0 : Nat))]) [some (.arr 1 (List.length (rns s (0 : Nat))) (lsF I1.c (rns s (0 : Nat))))])) := by kernel_rfl
def runsV (s : ByteArray) : AV := .tup [.hs 0 0 (rns s 0).length, .sb (good s 0)]
theorem ansRun {s : ByteArray} (hs : s.size ≤ 100000000) : Answers Tryd.prog Γm 16 [.v (.string s)] [] (runsV s) [] [i1B (rns s 0)] :=
  answers (fn := Tryd.f16) (c := bodyOf Tryd.f16) (ntmps := 31) (results := [.tmp 2, .tmp 3]) [k27] (fun _ => LSpec.at [0, 4, 5] nlRun (SRun s ⟨0, [], true⟩) (ORun s)) false Tryd.func16 (by kernel_rfl) (by kernel_rfl) (by kernel_rfl) (by kernel_rfl) (by simp) rfl (oneLoop (b := lpRun) (by kernel_rfl) (loopRun hs ⟨0, [], true⟩ ⟨Nat.zero_le _, rfl, by simp⟩)) <| Meets.of (runRun s) <| by
    repeat' (first | refine wC (by first | omega | (simp only [W1, cond_true, cond_false, ext_all]; first | done | omega)) ?_ | refine wT (by first | omega | (simp only [W1, cond_true, cond_false, ext_all]; first | done | omega)) ?_ | refine wF (by intro _h; first | omega | (simp only [W1, cond_true, cond_false, ext_all] at _h; first | done | omega)) ?_ | (refine wS ?_ ?_ <;> intro _h <;> simp only [W1, cond_true, cond_false, ext_all] at _h))
    all_goals simp only [W1, W2, owesN, owesX, owesR, cond_true, cond_false, ext_all]
    repeat' (first | apply And.intro | intro _hc)
    all_goals first | exact OLe.arr rfl (fun e he => absurd he (Nat.not_lt_zero e)) (fun _ => rfl) | exact AV.le_refl _ | exact AV.le_any _ | exact OLe.refl _ | exact OLe.none _ | exact LeH.refl _ | exact LeL.refl _ | exact AV.le.bs _ | exact AV.le.sb _ | omega | contradiction
noncomputable def kRun : CT Tryd.prog Γm := CT.oS 16 Tryd.func16 (by kernel_rfl) (by kernel_rfl) (fun s => s.size ≤ 100000000) runsV (fun s => [i1B (rns s 0)]) (fun s h => ansRun h)
end Go.Eng.TA

namespace Go.Eng.TA
open Go Go.Eng Go.Proofs
namespace S
noncomputable def c25 : CT Tryd.prog Γm := CT.auto false 100 3 [] 109 Tryd.f109 (bodyOf Tryd.f109) false 21 [.tmp 4] Tryd.func109 (by kernel_rfl) (by kernel_rfl) (by kernel_rfl) (by kernel_rfl)
end S
theorem run10 (c : Int) : bodyE (P := Tryd.prog) (Γ := Γm) [S.c25] (autoL false 10 [S.c25] false 0 19 (loopBodies (bodyOf Tryd.f73)) 1) false 19 [.tmp 2] (bodyOf Tryd.f73) [.v (.int .i32 c)] [] =
  Tree.br true (.chk true (.br (bif decide ((bif true then (97 : Int) else bif false then (48 : Int) else bif false then (95 : Int) else bif false then (45 : Int) else bif false then (223 : 
    Int) else bif false then (945 : Int) else (97 : Int)) ≤ c) then bif decide (c ≤ bif true then (122 : Int) else bif false then (57 : Int) else bif false then (95 : Int) else bif 
    false then (45 : Int) else bif false then (255 : Int) else bif false then (969 : Int) else (122 : Int)) then !decide (c = bif true then (0 : Int) else bif false then (0 : Int) else 
    bif false then (0 : Int) else bif false then (0 : Int) else bif false then (247 : Int) else bif false then (0 : Int) else (0 : Int)) else false else false) (.leaf ⟨.v (.bool true), 
    []⟩) (.br true (.chk true (.br (bif decide ((bif false then (97 : Int) else bif true then (48 : Int) else bif false then (95 : Int) else bif false then (45 : Int) else bif false 
    then (223 : Int) else bif false then (945 : Int) else (97 : Int)) ≤ c) then bif decide (c ≤ bif false then (122 : Int) else bif true then (57 : Int) else bif false then (95 : Int) 
    else bif false then (45 : Int) else bif false then (255 : Int) else bif false then (969 : Int) else (122 : Int)) then !decide (c = bif false then (0 : Int) else bif true then (0 : 
    Int) else bif false then (0 : Int) else bif false then (0 : Int) else bif false then (247 : Int) else bif false then (0 : Int) else (0 : Int)) else false else false) (.leaf ⟨.v 
    (.bool true), []⟩) (.br true (.chk true (.br (bif decide ((bif false then (97 : Int) else bif false then (48 : Int) else bif true then (95 : Int) else bif false then (45 : Int) 
    else bif false then (223 : Int) else bif false then (945 : Int) else (97 : Int)) ≤ c) then bif decide (c ≤ bif false then (122 : Int) else bif false then (57 : Int) else bif true 
    then (95 : Int) else bif false then (45 : Int) else bif false then (255 : Int) else bif false then (969 : Int) else (122 : Int)) then !decide (c = bif false then (0 : Int) else bif 
    false then (0 : Int) else bif true then (0 : Int) else bif false then (0 : Int) else bif false then (247 : Int) else bif false then (0 : Int) else (0 : Int)) else false else false) 
    (.leaf ⟨.v (.bool true), []⟩) (.br true (.chk true (.br (bif decide ((bif false then (97 : Int) else bif false then (48 : Int) else bif false then (95 : Int) else bif true then (45 
    : Int) else bif false then (223 : Int) else bif false then (945 : Int) else (97 : Int)) ≤ c) then bif decide (c ≤ bif false then (122 : Int) else bif false then (57 : Int) else bif 
    false then (95 : Int) else bif true then (45 : Int) else bif false then (255 : Int) else bif false then (969 : Int) else (122 : Int)) then !decide (c = bif false then (0 : Int) 
    else bif false then (0 : Int) else bif false then (0 : Int) else bif true then (0 : Int) else bif false then (247 : Int) else bif false then (0 : Int) else (0 : Int)) else false 
    else false) (.leaf ⟨.v (.bool true), []⟩) (.br true (.chk true (.br (bif decide ((bif false then (97 : Int) else bif false then (48 : Int) else bif false then (95 : Int) else bif 
    false then (45 : Int) else bif true then (223 : Int) else bif false then (945 : Int) else (97 : Int)) ≤ c) then bif decide (c ≤ bif false then (122 : Int) else bif false then (57 : 
    Int) else bif false then (95 : Int) else bif false then (45 : Int) else bif true then (255 : Int) else bif false then (969 : Int) else (122 : Int)) then !decide (c = bif false then 
    (0 : Int) else bif false then (0 : Int) else bif false then (0 : Int) else bif false then (0 : Int) else bif true then (247 : Int) else bif false then (0 : Int) else (0 : Int)) 
    else false else false) (.leaf ⟨.v (.bool true), []⟩) (.br true (.chk true (.br (bif decide ((bif false then (97 : Int) else bif false then (48 : Int) else bif false then (95 : Int) 
    else bif false then (45 : Int) else bif false then (223 : Int) else bif true then (945 : Int) else (97 : Int)) ≤ c) then bif decide (c ≤ bif false then (122 : Int) else bif false 
    then (57 : Int) else bif false then (95 : Int) else bif false then (45 : Int) else bif false then (255 : Int) else bif true then (969 : Int) else (122 : Int)) then !decide (c = bif 
    false then (0 : Int) else bif false then (0 : Int) else bif false then (0 : Int) else bif false then (0 : Int) else bif false then (247 : Int) else bif true then (0 : Int) else (0 
    : Int)) else false else false) (.leaf ⟨.v (.bool true), []⟩) (.br false (.chk false (.br (bif decide ((bif false then (97 : Int) else bif false then (48 : Int) else bif false then 
    (95 : Int) else bif false then (45 : Int) else bif false then (223 : Int) else bif false then (945 : Int) else (97 : Int)) ≤ c) then bif decide (c ≤ bif false then (122 : Int) else 
    bif false then (57 : Int) else bif false then (95 : Int) else bif false then (45 : Int) else bif false then (255 : Int) else bif false then (969 : Int) else (122 : Int)) then 
    !decide (c = bif false then (0 : Int) else bif false then (0 : Int) else bif false then (0 : Int) else bif false then (0 : Int) else bif false then (247 : Int) else bif false then 
    (0 : Int) else (0 : Int)) else false else false) (.leaf ⟨.v (.bool true), []⟩) (.br false (.chk false (.br (bif decide ((bif false then (97 : Int) else bif false then (48 : Int) 
    else bif false then (95 : Int) else bif false then (45 : Int) else bif false then (223 : Int) else bif false then (945 : Int) else (97 : Int)) ≤ c) then bif decide (c ≤ bif false 
    then (122 : Int) else bif false then (57 : Int) else bif false then (95 : Int) else bif false then (45 : Int) else bif false then (255 : Int) else bif false then (969 : Int) else 
    (122 : Int)) then !decide (c = bif false then (0 : Int) else bif false then (0 : Int) else bif false then (0 : Int) else bif false then (0 : Int) else bif false then (247 : Int) 
    else bif false then (0 : Int) else (0 : Int)) else false else false) (.leaf ⟨.v (.bool true), []⟩) (.br false (.chk false (.br (bif decide ((bif false then (97 : Int) else bif 
    false then (48 : Int) else bif false then (95 : Int) else bif false then (45 : Int) else bif false then (223 : Int) else bif false then (945 : Int) else (97 : Int)) ≤ c) then bif 
    decide (c ≤ bif false then (122 : Int) else bif false then (57 : Int) else bif false then (95 : Int) else bif false then (45 : Int) else bif false then (255 : Int) else bif false 
    then (969 : Int) else (122 : Int)) then !decide (c = bif false then (0 : Int) else bif false then (0 : Int) else bif false then (0 : Int) else bif false then (0 : Int) else bif 
    false then (247 : Int) else bif false then (0 : Int) else (0 : Int)) else false else false) (.leaf ⟨.v (.bool true), []⟩) (.br false (.chk false (.br (bif decide ((bif false then 
    (97 : Int) else bif false then (48 : Int) else bif false then (95 : Int) else bif false then (45 : Int) else bif false then (223 : Int) else bif false then (945 : Int) else (97 : 
    Int)) ≤ c) then bif decide (c ≤ bif false then (122 : Int) else bif false then (57 : Int) else bif false then (95 : Int) else bif false then (45 : Int) else bif false then (255 : 
    Int) else bif false then (969 : Int) else (122 : Int)) then !decide (c = bif false then (0 : Int) else bif false then (0 : Int) else bif false then (0 : Int) else bif false then (0 
    : Int) else bif false then (247 : Int) else bif false then (0 : Int) else (0 : Int)) else false else false) (.leaf ⟨.v (.bool true), []⟩) .fail)) (.leaf ⟨.v (.bool false), []⟩)))) 
    (.leaf ⟨.v (.bool false), []⟩)))) (.leaf ⟨.v (.bool false), []⟩)))) (.leaf ⟨.v (.bool false), []⟩)))) (.leaf ⟨.v (.bool false), []⟩)))) (.leaf ⟨.v (.bool false), []⟩)))) (.leaf ⟨.v 
    (.bool false), []⟩)))) (.leaf ⟨.v (.bool false), []⟩)))) (.leaf ⟨.v (.bool false), []⟩)))) (.leaf ⟨.v (.bool false), []⟩) := by kernel_rfl
theorem run26 (c : Int) : bodyE (P := Tryd.prog) (Γ := Γm) [S.c25] (autoL false 10 [S.c25] false 0 16 (loopBodies (bodyOf Tryd.f112)) 1) false 16 [.tmp 2] (bodyOf Tryd.f112) [.v (.int .i32 c)] [] =
  Tree.br true (.chk true (.br (bif decide ((bif true then (65 : Int) else bif false then (192 : Int) else bif false then (913 : Int) else (65 : Int)) ≤ c) then bif decide (c ≤ bif true then 
    (90 : Int) else bif false then (222 : Int) else bif false then (937 : Int) else (90 : Int)) then !decide (c = bif true then (0 : Int) else bif false then (215 : Int) else bif false 
    then (930 : Int) else (0 : Int)) else false else false) (.leaf ⟨.v (.bool true), []⟩) (.br true (.chk true (.br (bif decide ((bif false then (65 : Int) else bif true then (192 : 
    Int) else bif false then (913 : Int) else (65 : Int)) ≤ c) then bif decide (c ≤ bif false then (90 : Int) else bif true then (222 : Int) else bif false then (937 : Int) else (90 : 
    Int)) then !decide (c = bif false then (0 : Int) else bif true then (215 : Int) else bif false then (930 : Int) else (0 : Int)) else false else false) (.leaf ⟨.v (.bool true), []⟩) 
    (.br true (.chk true (.br (bif decide ((bif false then (65 : Int) else bif false then (192 : Int) else bif true then (913 : Int) else (65 : Int)) ≤ c) then bif decide (c ≤ bif 
    false then (90 : Int) else bif false then (222 : Int) else bif true then (937 : Int) else (90 : Int)) then !decide (c = bif false then (0 : Int) else bif false then (215 : Int) 
    else bif true then (930 : Int) else (0 : Int)) else false else false) (.leaf ⟨.v (.bool true), []⟩) (.br false (.chk false (.br (bif decide ((bif false then (65 : Int) else bif 
    false then (192 : Int) else bif false then (913 : Int) else (65 : Int)) ≤ c) then bif decide (c ≤ bif false then (90 : Int) else bif false then (222 : Int) else bif false then (937 
    : Int) else (90 : Int)) then !decide (c = bif false then (0 : Int) else bif false then (215 : Int) else bif false then (930 : Int) else (0 : Int)) else false else false) (.leaf ⟨.v 
    (.bool true), []⟩) (.br false (.chk false (.br (bif decide ((bif false then (65 : Int) else bif false then (192 : Int) else bif false then (913 : Int) else (65 : Int)) ≤ c) then 
    bif decide (c ≤ bif false then (90 : Int) else bif false then (222 : Int) else bif false then (937 : Int) else (90 : Int)) then !decide (c = bif false then (0 : Int) else bif false 
    then (215 : Int) else bif false then (930 : Int) else (0 : Int)) else false else false) (.leaf ⟨.v (.bool true), []⟩) (.br false (.chk false (.br (bif decide ((bif false then (65 : 
    Int) else bif false then (192 : Int) else bif false then (913 : Int) else (65 : Int)) ≤ c) then bif decide (c ≤ bif false then (90 : Int) else bif false then (222 : Int) else bif 
    false then (937 : Int) else (90 : Int)) then !decide (c = bif false then (0 : Int) else bif false then (215 : Int) else bif false then (930 : Int) else (0 : Int)) else false else 
    false) (.leaf ⟨.v (.bool true), []⟩) (.br false (.chk false (.br (bif decide ((bif false then (65 : Int) else bif false then (192 : Int) else bif false then (913 : Int) else (65 : 
    Int)) ≤ c) then bif decide (c ≤ bif false then (90 : Int) else bif false then (222 : Int) else bif false then (937 : Int) else (90 : Int)) then !decide (c = bif false then (0 : 
    Int) else bif false then (215 : Int) else bif false then (930 : Int) else (0 : Int)) else false else false) (.leaf ⟨.v (.bool true), []⟩) (.br false (.chk false (.br (bif decide 
    ((bif false then (65 : Int) else bif false then (192 : Int) else bif false then (913 : Int) else (65 : Int)) ≤ c) then bif decide (c ≤ bif false then (90 : Int) else bif false then 
    (222 : Int) else bif false then (937 : Int) else (90 : Int)) then !decide (c = bif false then (0 : Int) else bif false then (215 : Int) else bif false then (930 : Int) else (0 : 
    Int)) else false else false) (.leaf ⟨.v (.bool true), []⟩) (.br false (.chk false (.br (bif decide ((bif false then (65 : Int) else bif false then (192 : Int) else bif false then 
    (913 : Int) else (65 : Int)) ≤ c) then bif decide (c ≤ bif false then (90 : Int) else bif false then (222 : Int) else bif false then (937 : Int) else (90 : Int)) then !decide (c = 
    bif false then (0 : Int) else bif false then (215 : Int) else bif false then (930 : Int) else (0 : Int)) else false else false) (.leaf ⟨.v (.bool true), []⟩) (.br false (.chk false 
    (.br (bif decide ((bif false then (65 : Int) else bif false then (192 : Int) else bif false then (913 : Int) else (65 : Int)) ≤ c) then bif decide (c ≤ bif false then (90 : Int) 
    else bif false then (222 : Int) else bif false then (937 : Int) else (90 : Int)) then !decide (c = bif false then (0 : Int) else bif false then (215 : Int) else bif false then (930 
    : Int) else (0 : Int)) else false else false) (.leaf ⟨.v (.bool true), []⟩) .fail)) (.leaf ⟨.v (.bool false), []⟩)))) (.leaf ⟨.v (.bool false), []⟩)))) (.leaf ⟨.v (.bool false), 
    []⟩)))) (.leaf ⟨.v (.bool false), []⟩)))) (.leaf ⟨.v (.bool false), []⟩)))) (.leaf ⟨.v (.bool false), []⟩)))) (.leaf ⟨.v (.bool false), []⟩)))) (.leaf ⟨.v (.bool false), []⟩)))) 
    (.leaf ⟨.v (.bool false), []⟩)))) (.leaf ⟨.v (.bool false), []⟩) := by kernel_rfl
theorem run9 (c : Int) : bodyE (P := Tryd.prog) (Γ := Γm) [] Lno false 33 [.tmp 2] (bodyOf Tryd.f78) [.v (.int .i64 c)] [] =
  Tree.leaf
  {
    val :=
      AV.sb
        (bif decide ((65 : Int) ≤ c) then
          bif decide (c ≤ (90 : Int)) then true
          else
            bif decide ((192 : Int) ≤ c) then
              bif decide (c ≤ (222 : Int)) then
                bif !decide (c = (215 : Int)) then true
                else
                  bif decide ((913 : Int) ≤ c) then
                    bif decide (c ≤ (937 : Int)) then !decide (c = (930 : Int)) else false
                  else false
              else
                bif decide ((913 : Int) ≤ c) then bif decide (c ≤ (937 : Int)) then !decide (c = (930 : Int)) else false
                else false
            else
              bif decide ((913 : Int) ≤ c) then bif decide (c ≤ (937 : Int)) then !decide (c = (930 : Int)) else false
              else false
        else
          bif decide ((192 : Int) ≤ c) then
            bif decide (c ≤ (222 : Int)) then
              bif !decide (c = (215 : Int)) then true
              else
                bif decide ((913 : Int) ≤ c) then bif decide (c ≤ (937 : Int)) then !decide (c = (930 : Int)) else false
                else false
            else
              bif decide ((913 : Int) ≤ c) then bif decide (c ≤ (937 : Int)) then !decide (c = (930 : Int)) else false
              else false
          else
            bif decide ((913 : Int) ≤ c) then bif decide (c ≤ (937 : Int)) then !decide (c = (930 : Int)) else false
            else false),
    H := [] } := by kernel_rfl
theorem run11 (c : Int) : bodyE (P := Tryd.prog) (Γ := Γm) [] Lno false 45 [.tmp 2] (bodyOf Tryd.f74) [.v (.int .i64 c)] [] =
  Tree.leaf
  {
    val :=
      AV.sb
        (bif decide ((97 : Int) ≤ c) then
          bif decide (c ≤ (122 : Int)) then true
          else
            bif decide ((48 : Int) ≤ c) then
              bif decide (c ≤ (57 : Int)) then true
              else
                bif decide (c = (95 : Int)) then true
                else
                  bif decide (c = (45 : Int)) then true
                  else
                    bif decide ((223 : Int) ≤ c) then
                      bif decide (c ≤ (255 : Int)) then
                        bif !decide (c = (247 : Int)) then true
                        else bif decide ((945 : Int) ≤ c) then decide (c ≤ (969 : Int)) else false
                      else bif decide ((945 : Int) ≤ c) then decide (c ≤ (969 : Int)) else false
                    else bif decide ((945 : Int) ≤ c) then decide (c ≤ (969 : Int)) else false
            else
              bif decide (c = (95 : Int)) then true
              else
                bif decide (c = (45 : Int)) then true
                else
                  bif decide ((223 : Int) ≤ c) then
                    bif decide (c ≤ (255 : Int)) then
                      bif !decide (c = (247 : Int)) then true
                      else bif decide ((945 : Int) ≤ c) then decide (c ≤ (969 : Int)) else false
                    else bif decide ((945 : Int) ≤ c) then decide (c ≤ (969 : Int)) else false
                  else bif decide ((945 : Int) ≤ c) then decide (c ≤ (969 : Int)) else false
        else
          bif decide ((48 : Int) ≤ c) then
            bif decide (c ≤ (57 : Int)) then true
            else
              bif decide (c = (95 : Int)) then true
              else
                bif decide (c = (45 : Int)) then true
                else
                  bif decide ((223 : Int) ≤ c) then
                    bif decide (c ≤ (255 : Int)) then
                      bif !decide (c = (247 : Int)) then true
                      else bif decide ((945 : Int) ≤ c) then decide (c ≤ (969 : Int)) else false
                    else bif decide ((945 : Int) ≤ c) then decide (c ≤ (969 : Int)) else false
                  else bif decide ((945 : Int) ≤ c) then decide (c ≤ (969 : Int)) else false
          else
            bif decide (c = (95 : Int)) then true
            else
              bif decide (c = (45 : Int)) then true
              else
                bif decide ((223 : Int) ≤ c) then
                  bif decide (c ≤ (255 : Int)) then
                    bif !decide (c = (247 : Int)) then true
                    else bif decide ((945 : Int) ≤ c) then decide (c ≤ (969 : Int)) else false
                  else bif decide ((945 : Int) ≤ c) then decide (c ≤ (969 : Int)) else false
                else bif decide ((945 : Int) ≤ c) then decide (c ≤ (969 : Int)) else false),
    H := [] } := by kernel_rfl

theorem le_bs {a b : Bool} : AV.le (.v (.bool a)) (.sb b) ↔ b = a := ⟨fun h => by cases h; rfl, fun h => by subst h; exact .bs _⟩
theorem le_sbsb {a b : Bool} : AV.le (.sb a) (.sb b) ↔ a = b := ⟨fun h => by cases h; rfl, fun h => by subst h; exact .refl _⟩
def letterB (c : Int) : Bool := decide ((97 ≤ c ∧ c ≤ 122) ∨ (48 ≤ c ∧ c ≤ 57) ∨ c = 95 ∨ c = 45 ∨ (223 ≤ c ∧ c ≤ 255 ∧ c ≠ 247) ∨ (945 ≤ c ∧ c ≤ 969))
def greatB (c : Int) : Bool := decide ((65 ≤ c ∧ c ≤ 90) ∨ (192 ≤ c ∧ c ≤ 222 ∧ c ≠ 215) ∨ (913 ≤ c ∧ c ≤ 937 ∧ c ≠ 930))
theorem cond_if {p q : Prop} [Decidable p] [Decidable q] : (bif decide p then decide q else false) = decide (p ∧ q) := by
  by_cases hp : p <;> simp [hp]
theorem law10 (c : Int) : Gives (bodyE (P := Tryd.prog) (Γ := Γm) [S.c25] (autoL false 10 [S.c25] false 0 19 (loopBodies (bodyOf Tryd.f73)) 1) false 19 [.tmp 2] (bodyOf Tryd.f73) [.v (.int .i32 c)] []) (.sb (letterB c)) := ⟨by
  rw [run10]
  simp [le_bs, letterB]
  omega⟩
theorem law26 (c : Int) : Gives (bodyE (P := Tryd.prog) (Γ := Γm) [S.c25] (autoL false 10 [S.c25] false 0 16 (loopBodies (bodyOf Tryd.f112)) 1) false 16 [.tmp 2] (bodyOf Tryd.f112) [.v (.int .i32 c)] []) (.sb (greatB c)) := ⟨by
  rw [run26]
  simp [le_bs, greatB]
  omega⟩
theorem law9 (c : Int) : Gives (bodyE (P := Tryd.prog) (Γ := Γm) [] Lno false 33 [.tmp 2] (bodyOf Tryd.f78) [.v (.int .i64 c)] []) (.sb (greatB c)) := ⟨by
  rw [run9]
  simp only [Tree.sat_leaf, le_sbsb, greatB, Bool.cond_decide, LeH_nil, and_true]
  repeat' split
  all_goals first | (symm; rw [decide_eq_true_eq]; omega) | (symm; rw [decide_eq_false_iff_not]; omega) | (rw [Bool.eq_iff_iff]; simp; omega)⟩
theorem law11 (c : Int) : Gives (bodyE (P := Tryd.prog) (Γ := Γm) [] Lno false 45 [.tmp 2] (bodyOf Tryd.f74) [.v (.int .i64 c)] []) (.sb (letterB c)) := ⟨by
  rw [run11]
  simp only [Tree.sat_leaf, le_sbsb, letterB, Bool.cond_decide, LeH_nil, and_true]
  repeat' split
  all_goals first | (symm; rw [decide_eq_true_eq]; omega) | (symm; rw [decide_eq_false_iff_not]; omega) | (rw [Bool.eq_iff_iff]; simp; omega)⟩
end Go.Eng.TA

namespace Go.Eng.TA
open Go Go.Eng Go.Proofs
theorem autoL1 {f : Func} {T : List (CT Tryd.prog Γm)} {N : Nat} : ∀ (j : Nat) (b : Code), (loopBodies (bodyOf f))[j]? = some b → LoopOK Tryd.prog Γm 0 N b (autoL false 10 T false 0 N (loopBodies (bodyOf f)) 1 j) := autoL_ok 1
noncomputable def c10' : CT Tryd.prog Γm := CT.val1 73 Tryd.f73 (bodyOf Tryd.f73) [S.c25] (autoL false 10 [S.c25] false 0 19 (loopBodies (bodyOf Tryd.f73)) 1) false 19 [.tmp 2] .i32 (fun _ => true) (fun c => .sb (letterB c)) Tryd.func73 (by kernel_rfl) (by kernel_rfl) (by kernel_rfl) (by kernel_rfl) (by decide) autoL1 (fun c _ => law10 c)
noncomputable def c26' : CT Tryd.prog Γm := CT.val1 112 Tryd.f112 (bodyOf Tryd.f112) [S.c25] (autoL false 10 [S.c25] false 0 16 (loopBodies (bodyOf Tryd.f112)) 1) false 16 [.tmp 2] .i32 (fun _ => true) (fun c => .sb (greatB c)) Tryd.func112 (by kernel_rfl) (by kernel_rfl) (by kernel_rfl) (by kernel_rfl) (by decide) autoL1 (fun c _ => law26 c)
noncomputable def c9' : CT Tryd.prog Γm := CT.val1 78 Tryd.f78 (bodyOf Tryd.f78) [] Lno false 33 [.tmp 2] .i64 (fun _ => true) (fun c => .sb (greatB c)) Tryd.func78 (by kernel_rfl) (by kernel_rfl) (by kernel_rfl) (by kernel_rfl) (by decide) (noLoops (by kernel_rfl)) (fun c _ => law9 c)
noncomputable def c11' : CT Tryd.prog Γm := CT.val1 74 Tryd.f74 (bodyOf Tryd.f74) [] Lno false 45 [.tmp 2] .i64 (fun _ => true) (fun c => .sb (letterB c)) Tryd.func74 (by kernel_rfl) (by kernel_rfl) (by kernel_rfl) (by kernel_rfl) (by decide) (noLoops (by kernel_rfl)) (fun c _ => law11 c)
def smallF (c : Int) : Int := bif greatB c then c + 32 else c
theorem great_iff {c : Int} : greatB c = true ↔ ((65 ≤ c ∧ c ≤ 90) ∨ (192 ≤ c ∧ c ≤ 222 ∧ c ≠ 215) ∨ (913 ≤ c ∧ c ≤ 937 ∧ c ≠ 930)) := by simp [greatB]
theorem run12 (c : Int) : bodyE (P := Tryd.prog) (Γ := Γm) [c26'] Lno false 8 [.tmp 2] (bodyOf Tryd.f77) [.v (.int .i32 c)] [] =
  Tree.chk (true && true)
  (Tree.br (greatB c) (Tree.leaf { val := AV.v (Value.int IntKind.i32 (IntKind.i32.wrap (c + (32 : Int)))), H := [] })
    (Tree.leaf { val := AV.v (Value.int IntKind.i32 c), H := [] })) := by kernel_rfl

theorem wrap32 {n : Int} (h : -2147483648 ≤ n) (h' : n < 2147483648) : IntKind.i32.wrap n = n := by
  simp only [IntKind.wrap, IntKind.signed, IntKind.bits]; simp; omega
theorem law12 (c : Int) : Gives (bodyE (P := Tryd.prog) (Γ := Γm) [c26'] Lno false 8 [.tmp 2] (bodyOf Tryd.f77) [.v (.int .i32 c)] []) (.v (.int .i32 (smallF c))) := ⟨by
  rw [run12]
  simp only [Tree.sat_br, Tree.sat_chk, Tree.sat_leaf, Bool.and_self, true_and, LeH_nil, and_true]
  refine ⟨fun h => ?_, fun h => ?_⟩
  · have := great_iff.1 h
    rw [wrap32 (by omega) (by omega), smallF, h]; exact .refl _
  · rw [smallF, h]; exact .refl _⟩
noncomputable def c12' : CT Tryd.prog Γm := CT.val1 77 Tryd.f77 (bodyOf Tryd.f77) [c26'] Lno false 8 [.tmp 2] .i32 (fun _ => true) (fun c => .v (.int .i32 (smallF c))) Tryd.func77 (by kernel_rfl) (by kernel_rfl) (by kernel_rfl) (by kernel_rfl) (by decide) (noLoops (by kernel_rfl)) (fun c _ => law12 c)
end Go.Eng.TA

namespace Go.Eng.TA
open Go Go.Eng Go.Eng.M Go.Lib Go.Proofs
abbrev letN (c : Nat) : Bool := letterB (c : Int)
def badF (c : Nat) : Bool := decide ((48 ≤ c ∧ c ≤ 57) ∨ c = 45)
def firstOk : List Nat → Bool
  | c :: _ => !badF c
  | [] => true
def fine (s : ByteArray) (p : Nat) : Bool := (rns s p).all (fun c => letterB (c : Int)) && (bif decide (p = 0) then firstOk (rns s 0) else true)
def nameB (s : ByteArray) : Bool := fine s 0 && decide (1 ≤ (rns s 0).length ∧ (rns s 0).length ≤ 32)
def erN (b : Bool) : Int := bif b then 0 else 20
noncomputable abbrev lpChk : Code := loopOf (bodyOf Tryd.f20) 0
def SChk (s : ByteArray) (x : XP) : List AV × Heap := ([.v (.int .i64 (x.k : Int)), .its 0, .any], [some (.sit s x.p)])
def retChk : Out := ⟨.ret, [.any, .any, .v (.int .i64 20)], [none]⟩
def endChk (s : ByteArray) : Out := ⟨.exit 0, [.v (.int .i64 ((rns s 0).length : Int)), .any, .any], [none]⟩
def OChk (s : ByteArray) : Out := bif fine s 0 then endChk s else retChk
theorem rChk (s : ByteArray) (x : XP) : roundE (P := Tryd.prog) (Γ := Γm) [c10'] Lno false 0 0 lpChk [3, 8, 2] [] 41 (SChk s x).1 (SChk s x).2 =
  Tree.br (decide (x.p < ByteArray.size s)) (.chk (bif bif decide ((↑x.p : Int) = (0 : Int)) then bif decide ((48 : Int) ≤ (↑(Utf8.decode s x.p).fst : Int)) then bif decide ((↑(Utf8.decode s 
    x.p).fst : Int) ≤ (57 : Int)) then true else decide ((↑(Utf8.decode s x.p).fst : Int) = (45 : Int)) else decide ((↑(Utf8.decode s x.p).fst : Int) = (45 : Int)) else false then true 
    else true) (.br (bif bif decide ((↑x.p : Int) = (0 : Int)) then bif decide ((48 : Int) ≤ (↑(Utf8.decode s x.p).fst : Int)) then bif decide ((↑(Utf8.decode s x.p).fst : Int) ≤ (57 : 
    Int)) then true else decide ((↑(Utf8.decode s x.p).fst : Int) = (45 : Int)) else decide ((↑(Utf8.decode s x.p).fst : Int) = (45 : Int)) else false then true else !letterB 
    (↑(Utf8.decode s x.p).fst : Int)) (.leaf (.mk .ret [.v (.int .i64 (↑x.k : Int)), AV.its (0 : Nat), .v (.int .i64 (20 : Int))] [some (Blk.sit s (x.p + (Utf8.decode s x.p).snd))])) 
    (.leaf (.mk .normal [.v (.int .i64 (IntKind.wrap IntKind.i64 ((↑x.k : Int) + (1 : Int)))), AV.its (0 : Nat), .any] [some (Blk.sit s (x.p + (Utf8.decode s x.p).snd))])))) (.leaf 
    (.mk (.exit 0) [.v (.int .i64 (↑x.k : Int)), AV.its (0 : Nat), .any] [some (Blk.sit s x.p)])) := by kernel_rfl
theorem loopChk {s : ByteArray} (hs : s.size ≤ 1000000000) : ∀ x : XP, (x.p ≤ s.size ∧ x.k + (rns s x.p).length = (rns s 0).length ∧ fine s x.p = fine s 0) → LoopOK Tryd.prog Γm 0 41 lpChk (LSpec.at [3, 8, 2] [] (SChk s x) (OChk s)) := by
  refine loop_at (S := SChk s) (O := fun _ => OChk s) (k := 0) (fun x => s.size - x.p) fun x hp => .of (noLoops (by kernel_rfl)) (rChk s x) ?_
  obtain ⟨p, k⟩ := x
  obtain ⟨h1, h2, h3⟩ := hp
  have hl : (rns s 0).length ≤ s.size - 0 := rns_len
  dsimp only at h1 h2 h3
  rcases Nat.lt_or_ge p s.size with hi | hi
  · have hst := rns_step hi
    have hd := dec_pos s p
    have hle := dec_le hi
    rw [hst, List.length_cons] at h2
    have hp0 : fine s (p + (Utf8.decode s p).2) = (rns s (p + (Utf8.decode s p).2)).all fun c => letterB (c : Int) := by
      unfold fine
      rw [decide_eq_false (by omega), cond_false, Bool.and_true]
    have hf : fine s p = (letterB ((Utf8.decode s p).1 : Int) && fine s (p + (Utf8.decode s p).2) && (bif decide (p = 0) then !badF (Utf8.decode s p).1 else true)) := by
      rw [hp0]
      unfold fine
      rw [hst, List.all_cons]
      congr 1
      by_cases hz : p = 0
      · subst hz; rw [hst]; rfl
      · rw [decide_eq_false hz]; rfl
    cases hL : letterB ((Utf8.decode s p).1 : Int) with
    | false =>
      rw [hL, Bool.false_and, Bool.false_and] at hf
      rw [show OChk s = retChk by unfold OChk; rw [← h3, hf]; rfl]
      repeat' (first | refine wC (by first | omega | (simp only [W1, cond_true, cond_false, hL]; first | done | omega)) ?_ | refine wT (by first | omega | (simp only [W1, cond_true, cond_false, hL]; first | done | omega)) ?_ | refine wF (by intro _h; first | omega | (simp only [W1, cond_true, cond_false, hL] at _h; first | done | omega)) ?_ | (refine wS ?_ ?_ <;> intro _h <;> simp only [W1, cond_true, cond_false, hL] at _h))
      all_goals simp only [W1, W2, owesN, owesX, owesR, cond_true, cond_false, hL]
      repeat' (first | apply And.intro | intro _hc)
      all_goals first | exact rfl | exact AV.le_refl _ | exact AV.le_any _ | exact OLe.refl _ | exact OLe.none _ | exact LeH.refl _ | exact LeL.refl _ | exact AV.le.bs _ | exact AV.le.sb _ | omega | contradiction
    | true =>
      by_cases hb : p = 0 ∧ badF (Utf8.decode s p).1 = true
      · obtain ⟨rfl, hb⟩ := hb
        rw [hb] at hf
        have hf : fine s 0 = false := by rw [hf]; simp
        have hb := of_decide_eq_true hb
        rw [show OChk s = retChk by unfold OChk; rw [hf]; rfl]
        repeat' (first | refine wC (by first | omega | (simp only [W1, cond_true, cond_false, hL]; first | done | omega)) ?_ | refine wT (by first | omega | (simp only [W1, cond_true, cond_false, hL]; first | done | omega)) ?_ | refine wF (by intro _h; first | omega | (simp only [W1, cond_true, cond_false, hL] at _h; first | done | omega)) ?_ | (refine wS ?_ ?_ <;> intro _h <;> simp only [W1, cond_true, cond_false, hL] at _h))
        all_goals simp only [W1, W2, owesN, owesX, owesR, cond_true, cond_false, hL]
        repeat' (first | apply And.intro | intro _hc)
        all_goals first | exact rfl | exact AV.le_refl _ | exact AV.le_any _ | exact OLe.refl _ | exact OLe.none _ | exact LeH.refl _ | exact LeL.refl _ | exact AV.le.bs _ | exact AV.le.sb _ | omega | contradiction
      · have hb' : (bif decide (p = 0) then !badF (Utf8.decode s p).1 else true) = true := by
          by_cases hz : p = 0
          · cases h : badF (Utf8.decode s p).1 with
            | true => exact absurd ⟨hz, h⟩ hb
            | false => simp
          · simp [hz]
        have hb2 : ¬ (p = 0 ∧ ((48 ≤ (Utf8.decode s p).1 ∧ (Utf8.decode s p).1 ≤ 57) ∨ (Utf8.decode s p).1 = 45)) := fun ⟨e, h⟩ => hb ⟨e, decide_eq_true h⟩
        rw [hb', hL, Bool.and_true, Bool.true_and] at hf
        repeat' (first | refine wC (by first | omega | (simp only [W1, cond_true, cond_false, hL, wrapUpN (show k ≤ 10000000000 by omega)]; first | done | omega)) ?_ | refine wT (by first | omega | (simp only [W1, cond_true, cond_false, hL, wrapUpN (show k ≤ 10000000000 by omega)]; first | done | omega)) ?_ | refine wF (by intro _h; first | omega | (simp only [W1, cond_true, cond_false, hL, wrapUpN (show k ≤ 10000000000 by omega)] at _h; first | done | omega)) ?_ | (refine wS ?_ ?_ <;> intro _h <;> simp only [W1, cond_true, cond_false, hL, wrapUpN (show k ≤ 10000000000 by omega)] at _h))
        all_goals simp only [W1, W2, owesN, owesX, owesR, cond_true, cond_false, hL, wrapUpN (show k ≤ 10000000000 by omega)]
        repeat' (first | apply And.intro | intro _hc)
        all_goals first | exact ⟨⟨p + (Utf8.decode s p).2, k + 1⟩, LeL.refl _, LeH.refl _, ⟨hle, by dsimp only; omega, by dsimp only; rw [← hf, h3]⟩, by dsimp only; omega⟩ | exact AV.le_refl _ | exact AV.le_any _ | exact OLe.refl _ | exact OLe.none _ | exact LeH.refl _ | exact LeL.refl _ | exact AV.le.bs _ | exact AV.le.sb _ | omega | contradiction
  · rw [rns_end hi, List.length_nil] at h2
    have h2 : k = (rns s 0).length := by omega
    subst h2
    have hf : fine s 0 = true := by
      rw [← h3]; unfold fine; rw [rns_end hi]
      by_cases hz : p = 0
      · subst hz; rw [rns_end hi]; rfl
      · rw [decide_eq_false hz]; rfl
    rw [show OChk s = endChk s by unfold OChk; rw [hf]; rfl]
    repeat' (first | refine wC (by first | omega | (simp only [W1, cond_true, cond_false]; first | done | omega)) ?_ | refine wT (by first | omega | (simp only [W1, cond_true, cond_false]; first | done | omega)) ?_ | refine wF (by intro _h; first | omega | (simp only [W1, cond_true, cond_false] at _h; first | done | omega)) ?_ | (refine wS ?_ ?_ <;> intro _h <;> simp only [W1, cond_true, cond_false] at _h))
    all_goals simp only [W1, W2, owesN, owesX, owesR, cond_true, cond_false]
    repeat' (first | apply And.intro | intro _hc)
    all_goals first | exact rfl | exact AV.le_refl _ | exact AV.le_any _ | exact OLe.refl _ | exact OLe.none _ | exact LeH.refl _ | exact LeL.refl _ | exact AV.le.bs _ | exact AV.le.sb _ | omega | contradiction
theorem runChkE (s : ByteArray) : bodyE (P := Tryd.prog) (Γ := Γm) [] (fun _ => LSpec.at [3, 8, 2] [] (SChk s ⟨0, 0⟩) (endChk s)) false 41 [.tmp 2] (bodyOf Tryd.f20) [.v (.string s)] [] =
  Tree.chk (cl (LeL [.v (.int .i64 (0 : Int)), AV.its (0 : Nat), .v (.int .i64 (0 : Int))] [.v (.int .i64 (↑(0 : Nat) : Int)), AV.its (0 : Nat), .any] ∧ LeH [some (Blk.sit s (0 : Nat))] [some 
    (Blk.sit s (0 : Nat))])) (.br (bif decide ((↑(List.length (rns s (0 : Nat))) : Int) < (1 : Int)) then true else decide ((32 : Int) < (↑(List.length (rns s (0 : Nat))) : Int))) 
    (.leaf (Ans.mk (.v (.int .i64 (20 : Int))) [])) (.leaf (Ans.mk (.v (.int .i64 (0 : Int))) []))) := by kernel_rfl
theorem runChkR (s : ByteArray) : bodyE (P := Tryd.prog) (Γ := Γm) [] (fun _ => LSpec.at [3, 8, 2] [] (SChk s ⟨0, 0⟩) retChk) false 41 [.tmp 2] (bodyOf Tryd.f20) [.v (.string s)] [] =
  Tree.chk (cl (LeL [.v (.int .i64 (0 : Int)), AV.its (0 : Nat), .v (.int .i64 (0 : Int))] [.v (.int .i64 (↑(0 : Nat) : Int)), AV.its (0 : Nat), .any] ∧ LeH [some (Blk.sit s (0 : Nat))] [some 
    (Blk.sit s (0 : Nat))])) (.leaf (Ans.mk (.v (.int .i64 (20 : Int))) [])) := by kernel_rfl
theorem ansChk {s : ByteArray} (hs : s.size ≤ 1000000000) : Answers Tryd.prog Γm 20 [.v (.string s)] [] (.v (.int .i64 (erN (nameB s)))) [] [] := by
  have hl := loopChk hs ⟨0, 0⟩ ⟨Nat.zero_le _, Nat.zero_add _, rfl⟩
  unfold OChk at hl
  unfold nameB
  cases hf : fine s 0 with
  | true =>
    rw [hf, cond_true] at hl
    refine answers (fn := Tryd.f20) (c := bodyOf Tryd.f20) (ntmps := 41) (results := [.tmp 2]) [] (fun _ => LSpec.at [3, 8, 2] [] (SChk s ⟨0, 0⟩) (endChk s)) false Tryd.func20 (by kernel_rfl) (by kernel_rfl) (by kernel_rfl) (by kernel_rfl) (by simp) rfl (oneLoop (b := lpChk) (by kernel_rfl) hl) <| Meets.of (runChkE s) <| ?_
    by_cases h : 1 ≤ (rns s 0).length ∧ (rns s 0).length ≤ 32
    · rw [decide_eq_true h]
      repeat' (first | refine wC (by first | omega | (simp only [W1, cond_true, cond_false]; first | done | omega)) ?_ | refine wT (by first | omega | (simp only [W1, cond_true, cond_false]; first | done | omega)) ?_ | refine wF (by intro _h; first | omega | (simp only [W1, cond_true, cond_false] at _h; first | done | omega)) ?_ | (refine wS ?_ ?_ <;> intro _h <;> simp only [W1, cond_true, cond_false] at _h))
      all_goals simp only [W1, W2, owesN, owesX, owesR, cond_true, cond_false]
      repeat' (first | apply And.intro | intro _hc)
      all_goals first | exact leI rfl | exact AV.le_refl _ | exact AV.le_any _ | exact OLe.refl _ | exact OLe.none _ | exact LeH.refl _ | exact LeL.refl _ | exact AV.le.bs _ | exact AV.le.sb _ | omega | contradiction
    · rw [decide_eq_false h]
      repeat' (first | refine wC (by first | omega | (simp only [W1, cond_true, cond_false]; first | done | omega)) ?_ | refine wT (by first | omega | (simp only [W1, cond_true, cond_false]; first | done | omega)) ?_ | refine wF (by intro _h; first | omega | (simp only [W1, cond_true, cond_false] at _h; first | done | omega)) ?_ | (refine wS ?_ ?_ <;> intro _h <;> simp only [W1, cond_true, cond_false] at _h))
      all_goals simp only [W1, W2, owesN, owesX, owesR, cond_true, cond_false]
      repeat' (first | apply And.intro | intro _hc)
      all_goals first | exact leI rfl | exact AV.le_refl _ | exact AV.le_any _ | exact OLe.refl _ | exact OLe.none _ | exact LeH.refl _ | exact LeL.refl _ | exact AV.le.bs _ | exact AV.le.sb _ | omega | contradiction
  | false =>
    rw [hf, cond_false] at hl
    refine answers (fn := Tryd.f20) (c := bodyOf Tryd.f20) (ntmps := 41) (results := [.tmp 2]) [] (fun _ => LSpec.at [3, 8, 2] [] (SChk s ⟨0, 0⟩) retChk) false Tryd.func20 (by kernel_rfl) (by kernel_rfl) (by kernel_rfl) (by kernel_rfl) (by simp) rfl (oneLoop (b := lpChk) (by kernel_rfl) hl) <| Meets.of (runChkR s) <| ?_
    repeat' (first | refine wC (by first | omega | (simp only [W1, cond_true, cond_false]; first | done | omega)) ?_ | refine wT (by first | omega | (simp only [W1, cond_true, cond_false]; first | done | omega)) ?_ | refine wF (by intro _h; first | omega | (simp only [W1, cond_true, cond_false] at _h; first | done | omega)) ?_ | (refine wS ?_ ?_ <;> intro _h <;> simp only [W1, cond_true, cond_false] at _h))
    all_goals simp only [W1, W2, owesN, owesX, owesR, cond_true, cond_false]
    repeat' (first | apply And.intro | intro _hc)
    all_goals first | exact leI rfl | exact AV.le_refl _ | exact AV.le_any _ | exact OLe.refl _ | exact OLe.none _ | exact LeH.refl _ | exact LeL.refl _ | exact AV.le.bs _ | exact AV.le.sb _ | omega | contradiction
noncomputable def kChk : CT Tryd.prog Γm := CT.oS 20 Tryd.func20 (by kernel_rfl) (by kernel_rfl) (fun s => s.size ≤ 1000000000) (fun s => .v (.int .i64 (erN (nameB s)))) (fun _ => []) (fun s h => ansChk h)
theorem bad_letter {s : ByteArray} : ∀ {n p : Nat}, s.size - p ≤ n → good s p = false → ((rns s p).all fun c => letterB (c : Int)) = false := by
  intro n
  induction n with
  | zero => intro p h hg; rw [good_end (by omega)] at hg; cases hg
  | succ n ih =>
    intro p h hg
    by_cases hp : p < s.size
    · rw [good_ok hp] at hg
      rw [rns_step hp, List.all_cons]
      have := dec_pos s p
      cases ho : okAt s p with
      | false =>
        have hb : badAt s p := by
          unfold okAt at ho
          have h3 : decide (badAt s p) = true := by cases h2 : decide (badAt s p) with
            | true => rfl
            | false => rw [h2] at ho; cases ho
          exact of_decide_eq_true h3
        rw [show (Utf8.decode s p).1 = 65533 by rw [show Utf8.decode s p = (65533, 1) from hb]]
        rfl
      | true =>
        rw [ho, Bool.true_and] at hg
        rw [ih (by omega) hg, Bool.and_false]
    · rw [good_end (by omega)] at hg; cases hg
noncomputable abbrev lpChkR : Code := loopOf (bodyOf Tryd.f21) 0
def SChkR (l : List Nat) (i : Nat) : List AV × Heap := ([.hs 0 0 l.length, .v (.int .i64 (i : Int)), .any], [some (i1B l)])
def OChkR (l : List Nat) : Out := bif (l.all fun c => letterB (c : Int)) then ⟨.exit 0, [.any, .any, .any], [none]⟩ else ⟨.ret, [.any, .any, .v (.bool false)], [none]⟩
theorem rChkR (l : List Nat) (i : Nat) : roundE (P := Tryd.prog) (Γ := Γm) [c11'] Lno false 0 0 lpChkR [3, 5, 2] [] 53 (SChkR l i).1 (SChkR l i).2 =
  Tree.br (decide ((↑i : Int) < (↑(List.length l) : Int))) (.chk (decide ((0 : Int) ≤ (↑i : Int)) && decide ((↑i : Int) < (↑(List.length l) : Int)) && true) (.br (!letterB (↑(List.getD l ((0 
    : Nat) + i) default) : Int)) (.leaf (.mk .ret [.hs 0 0 (List.length l), .v (.int .i64 (↑i : Int)), .v (.bool false)] [some (.arr 1 (List.length l) (lsF I1.c l))])) (.leaf (.mk 
    .normal [.hs 0 0 (List.length l), .v (.int .i64 (IntKind.wrap IntKind.i64 ((↑i : Int) + (1 : Int)))), .any] [some (.arr 1 (List.length l) (lsF I1.c l))])))) (.leaf (.mk (.exit 0) 
    [.hs 0 0 (List.length l), .v (.int .i64 (↑i : Int)), .any] [some (.arr 1 (List.length l) (lsF I1.c l))])) := by kernel_rfl
theorem all_drop {f : Nat → Bool} {l : List Nat} {i : Nat} (h : i < l.length) : (l.drop i).all f = (f (l.getD i default) && (l.drop (i + 1)).all f) := by
  rw [List.drop_eq_getElem_cons h, List.all_cons, getD_get h]
theorem loopChkR {l : List Nat} (hs : l.length ≤ 1000000000) : ∀ i : Nat, (i ≤ l.length ∧ ((l.drop i).all fun c => letterB (c : Int)) = l.all fun c => letterB (c : Int)) → LoopOK Tryd.prog Γm 0 53 lpChkR (LSpec.at [3, 5, 2] [] (SChkR l i) (OChkR l)) := by
  refine loop_at (S := SChkR l) (O := fun _ => OChkR l) (k := 0) (fun i => l.length - i) fun i hp => .of (noLoops (by kernel_rfl)) (rChkR l i) ?_
  obtain ⟨h1, h2⟩ := hp
  rcases Nat.lt_or_ge i l.length with hi | hi
  · rw [all_drop hi] at h2
    cases hL : letterB ((l.getD i default : Nat) : Int) with
    | false =>
      rw [hL, Bool.false_and] at h2
      unfold OChkR
      rw [← h2, cond_false]
      repeat' (first | refine wC (by first | omega | (simp only [W1, cond_true, cond_false, hL]; first | done | omega)) ?_ | refine wT (by first | omega | (simp only [W1, cond_true, cond_false, hL]; first | done | omega)) ?_ | refine wF (by intro _h; first | omega | (simp only [W1, cond_true, cond_false, hL] at _h; first | done | omega)) ?_ | (refine wS ?_ ?_ <;> intro _h <;> simp only [W1, cond_true, cond_false, hL] at _h))
      all_goals simp only [W1, W2, owesN, owesX, owesR, cond_true, cond_false, hL]
      repeat' (first | apply And.intro | intro _hc)
      all_goals first | exact rfl | exact AV.le_refl _ | exact AV.le_any _ | exact OLe.refl _ | exact OLe.none _ | exact LeH.refl _ | exact LeL.refl _ | exact AV.le.bs _ | exact AV.le.sb _ | omega | contradiction
    | true =>
      rw [hL, Bool.true_and] at h2
      repeat' (first | refine wC (by first | omega | (simp only [W1, cond_true, cond_false, hL, wrapUpN (show i ≤ 10000000000 by omega)]; first | done | omega)) ?_ | refine wT (by first | omega | (simp only [W1, cond_true, cond_false, hL, wrapUpN (show i ≤ 10000000000 by omega)]; first | done | omega)) ?_ | refine wF (by intro _h; first | omega | (simp only [W1, cond_true, cond_false, hL, wrapUpN (show i ≤ 10000000000 by omega)] at _h; first | done | omega)) ?_ | (refine wS ?_ ?_ <;> intro _h <;> simp only [W1, cond_true, cond_false, hL, wrapUpN (show i ≤ 10000000000 by omega)] at _h))
      all_goals simp only [W1, W2, owesN, owesX, owesR, cond_true, cond_false, hL, wrapUpN (show i ≤ 10000000000 by omega)]
      repeat' (first | apply And.intro | intro _hc)
      all_goals first | exact ⟨i + 1, LeL.refl _, LeH.refl _, ⟨hi, h2⟩, by omega⟩ | exact AV.le_refl _ | exact AV.le_any _ | exact OLe.refl _ | exact OLe.none _ | exact LeH.refl _ | exact LeL.refl _ | exact AV.le.bs _ | exact AV.le.sb _ | omega | contradiction
  · rw [List.drop_eq_nil_of_le hi] at h2
    unfold OChkR
    rw [← h2, List.all_nil, cond_true]
    repeat' (first | refine wC (by first | omega | (simp only [W1, cond_true, cond_false]; first | done | omega)) ?_ | refine wT (by first | omega | (simp only [W1, cond_true, cond_false]; first | done | omega)) ?_ | refine wF (by intro _h; first | omega | (simp only [W1, cond_true, cond_false] at _h; first | done | omega)) ?_ | (refine wS ?_ ?_ <;> intro _h <;> simp only [W1, cond_true, cond_false] at _h))
    all_goals simp only [W1, W2, owesN, owesX, owesR, cond_true, cond_false]
    repeat' (first | apply And.intro | intro _hc)
    all_goals first | exact rfl | exact AV.le_refl _ | exact AV.le_any _ | exact OLe.refl _ | exact OLe.none _ | exact LeH.refl _ | exact LeL.refl _ | exact AV.le.bs _ | exact AV.le.sb _ | omega | contradiction
theorem runChkRE (s : ByteArray) : bodyE (P := Tryd.prog) (Γ := Γm) [kRun] (fun _ => LSpec.at [3, 5, 2] [] (SChkR (rns s 0) 0) ⟨.exit 0, [.any, .any, .any], [none]⟩) false 53 [.tmp 2] (bodyOf Tryd.f21) [.v (.string s)] [] =
  Tree.chk (cl (ByteArray.size s ≤ (100000000 : Nat) ∧ LeL [.v (.string s)] [.v (.string s)] ∧ LeH [] [])) (.chk (bif !good s (0 : Nat) then true else bif decide ((↑(List.length (rns s (0 : 
    Nat))) : Int) < (1 : Int)) then true else bif decide ((32 : Int) < (↑(List.length (rns s (0 : Nat))) : Int)) then true else decide ((0 : Int) < (↑(List.length (rns s (0 : Nat))) : 
    Int)) && bif decide ((↑(List.getD (rns s (0 : Nat)) (0 : Nat) default) : Int) = (45 : Int)) then true else decide ((0 : Int) < (↑(List.length (rns s (0 : Nat))) : Int)) && bif 
    decide ((48 : Int) ≤ (↑(List.getD (rns s (0 : Nat)) (0 : Nat) default) : Int)) then decide ((0 : Int) < (↑(List.length (rns s (0 : Nat))) : Int)) else true) (.br (bif !good s (0 : 
    Nat) then true else bif decide ((↑(List.length (rns s (0 : Nat))) : Int) < (1 : Int)) then true else bif decide ((32 : Int) < (↑(List.length (rns s (0 : Nat))) : Int)) then true 
    else bif decide ((↑(List.getD (rns s (0 : Nat)) (0 : Nat) default) : Int) = (45 : Int)) then true else bif decide ((48 : Int) ≤ (↑(List.getD (rns s (0 : Nat)) (0 : Nat) default) : 
    Int)) then decide ((↑(List.getD (rns s (0 : Nat)) (0 : Nat) default) : Int) ≤ (57 : Int)) else false) (.leaf (Ans.mk (.v (.bool false)) [])) (.chk (cl (LeL [.hs 0 0 (List.length 
    (rns s (0 : Nat))), .v (.int .i64 (0 : Int)), .v (.bool false)] [.hs 0 0 (List.length (rns s (0 : Nat))), .v (.int .i64 (↑(0 : Nat) : Int)), .any] ∧ LeH [some (.arr 1 (List.length 
    (rns s (0 : Nat))) (lsF I1.c (rns s (0 : Nat))))] [some (.arr 1 (List.length (rns s (0 : Nat))) (lsF I1.c (rns s (0 : Nat))))])) (.leaf (Ans.mk (.v (.bool true)) []))))) := by kernel_rfl
theorem runChkRR (s : ByteArray) : bodyE (P := Tryd.prog) (Γ := Γm) [kRun] (fun _ => LSpec.at [3, 5, 2] [] (SChkR (rns s 0) 0) ⟨.ret, [.any, .any, .v (.bool false)], [none]⟩) false 53 [.tmp 2] (bodyOf Tryd.f21) [.v (.string s)] [] =
  Tree.chk (cl (ByteArray.size s ≤ (100000000 : Nat) ∧ LeL [.v (.string s)] [.v (.string s)] ∧ LeH [] [])) (.chk (bif !good s (0 : Nat) then true else bif decide ((↑(List.length (rns s (0 : 
    Nat))) : Int) < (1 : Int)) then true else bif decide ((32 : Int) < (↑(List.length (rns s (0 : Nat))) : Int)) then true else decide ((0 : Int) < (↑(List.length (rns s (0 : Nat))) : 
    Int)) && bif decide ((↑(List.getD (rns s (0 : Nat)) (0 : Nat) default) : Int) = (45 : Int)) then true else decide ((0 : Int) < (↑(List.length (rns s (0 : Nat))) : Int)) && bif 
    decide ((48 : Int) ≤ (↑(List.getD (rns s (0 : Nat)) (0 : Nat) default) : Int)) then decide ((0 : Int) < (↑(List.length (rns s (0 : Nat))) : Int)) else true) (.br (bif !good s (0 : 
    Nat) then true else bif decide ((↑(List.length (rns s (0 : Nat))) : Int) < (1 : Int)) then true else bif decide ((32 : Int) < (↑(List.length (rns s (0 : Nat))) : Int)) then true 
    else bif decide ((↑(List.getD (rns s (0 : Nat)) (0 : Nat) default) : Int) = (45 : Int)) then true else bif decide ((48 : Int) ≤ (↑(List.getD (rns s (0 : Nat)) (0 : Nat) default) : 
    Int)) then decide ((↑(List.getD (rns s (0 : Nat)) (0 : Nat) default) : Int) ≤ (57 : Int)) else false) (.leaf (Ans.mk (.v (.bool false)) [])) (.chk (cl (LeL [.hs 0 0 (List.length 
    (rns s (0 : Nat))), .v (.int .i64 (0 : Int)), .v (.bool false)] [.hs 0 0 (List.length (rns s (0 : Nat))), .v (.int .i64 (↑(0 : Nat) : Int)), .any] ∧ LeH [some (.arr 1 (List.length 
    (rns s (0 : Nat))) (lsF I1.c (rns s (0 : Nat))))] [some (.arr 1 (List.length (rns s (0 : Nat))) (lsF I1.c (rns s (0 : Nat))))])) (.leaf (Ans.mk (.v (.bool false)) []))))) := by kernel_rfl
theorem firstOk_get {l : List Nat} (h : 0 < l.length) : firstOk l = !badF (l.getD 0 default) := by
  cases l with
  | nil => cases h
  | cons c l => rfl
theorem ansChkR {s : ByteArray} (hs : s.size ≤ 100000000) : Answers Tryd.prog Γm 21 [.v (.string s)] [] (.sb (nameB s)) [] [] := by
  have hln : (rns s 0).length ≤ s.size - 0 := rns_len
  have hl := loopChkR (l := rns s 0) (by omega) 0 ⟨Nat.zero_le _, rfl⟩
  have hg := bad_letter (s := s) (n := s.size) (p := 0) (by omega)
  have hfo := firstOk_get (l := rns s 0)
  have hnm : nameB s = (((rns s 0).all (fun c => letterB (c : Int)) && firstOk (rns s 0)) && decide (1 ≤ (rns s 0).length ∧ (rns s 0).length ≤ 32)) := rfl
  have hbf : badF ((rns s 0).getD 0 default) = decide ((48 ≤ (rns s 0).getD 0 default ∧ (rns s 0).getD 0 default ≤ 57) ∨ (rns s 0).getD 0 default = 45) := rfl
  unfold OChkR at hl
  rw [hnm]
  cases hA : (rns s 0).all (fun c => letterB (c : Int)) with
  | true =>
    rw [hA, cond_true] at hl
    rw [hA] at hg
    have hg' : good s 0 = true := by
      cases h : good s 0 with
      | true => rfl
      | false => exact absurd (hg h) (by decide)
    refine answers (fn := Tryd.f21) (c := bodyOf Tryd.f21) (ntmps := 53) (results := [.tmp 2]) [kRun] (fun _ => LSpec.at [3, 5, 2] [] (SChkR (rns s 0) 0) ⟨.exit 0, [.any, .any, .any], [none]⟩) false Tryd.func21 (by kernel_rfl) (by kernel_rfl) (by kernel_rfl) (by kernel_rfl) (by simp) rfl (oneLoop (b := lpChkR) (by kernel_rfl) hl) <| Meets.of (runChkRE s) <| ?_
    by_cases h : 1 ≤ (rns s 0).length ∧ (rns s 0).length ≤ 32
    · rw [decide_eq_true h, hfo (by omega)]
      by_cases hb : ((48 ≤ (rns s 0).getD 0 default ∧ (rns s 0).getD 0 default ≤ 57) ∨ (rns s 0).getD 0 default = 45)
      · rw [hbf, decide_eq_true hb]
        repeat' (first | refine wC (by first | omega | (simp only [W1, cond_true, cond_false, hg']; first | done | omega)) ?_ | refine wT (by first | omega | (simp only [W1, cond_true, cond_false, hg']; first | done | omega)) ?_ | refine wF (by intro _h; first | omega | (simp only [W1, cond_true, cond_false, hg'] at _h; first | done | omega)) ?_ | (refine wS ?_ ?_ <;> intro _h <;> simp only [W1, cond_true, cond_false, hg'] at _h))
        all_goals simp only [W1, W2, owesN, owesX, owesR, cond_true, cond_false, hg']
        repeat' (first | apply And.intro | intro _hc)
        all_goals first | exact AV.le_refl _ | exact AV.le_any _ | exact OLe.refl _ | exact OLe.none _ | exact LeH.refl _ | exact LeL.refl _ | exact AV.le.bs _ | exact AV.le.sb _ | omega | contradiction
      · rw [hbf, decide_eq_false hb]
        repeat' (first | refine wC (by first | omega | (simp only [W1, cond_true, cond_false, hg']; first | done | omega)) ?_ | refine wT (by first | omega | (simp only [W1, cond_true, cond_false, hg']; first | done | omega)) ?_ | refine wF (by intro _h; first | omega | (simp only [W1, cond_true, cond_false, hg'] at _h; first | done | omega)) ?_ | (refine wS ?_ ?_ <;> intro _h <;> simp only [W1, cond_true, cond_false, hg'] at _h))
        all_goals simp only [W1, W2, owesN, owesX, owesR, cond_true, cond_false, hg']
        repeat' (first | apply And.intro | intro _hc)
        all_goals first | exact AV.le_refl _ | exact AV.le_any _ | exact OLe.refl _ | exact OLe.none _ | exact LeH.refl _ | exact LeL.refl _ | exact AV.le.bs _ | exact AV.le.sb _ | omega | contradiction
    · rw [decide_eq_false h, Bool.and_false]
      repeat' (first | refine wC (by first | omega | (simp only [W1, cond_true, cond_false, hg']; first | done | omega)) ?_ | refine wT (by first | omega | (simp only [W1, cond_true, cond_false, hg']; first | done | omega)) ?_ | refine wF (by intro _h; first | omega | (simp only [W1, cond_true, cond_false, hg'] at _h; first | done | omega)) ?_ | (refine wS ?_ ?_ <;> intro _h <;> simp only [W1, cond_true, cond_false, hg'] at _h))
      all_goals simp only [W1, W2, owesN, owesX, owesR, cond_true, cond_false, hg']
      repeat' (first | apply And.intro | intro _hc)
      all_goals first | exact AV.le_refl _ | exact AV.le_any _ | exact OLe.refl _ | exact OLe.none _ | exact LeH.refl _ | exact LeL.refl _ | exact AV.le.bs _ | exact AV.le.sb _ | omega | contradiction
  | false =>
    rw [hA, cond_false] at hl
    refine answers (fn := Tryd.f21) (c := bodyOf Tryd.f21) (ntmps := 53) (results := [.tmp 2]) [kRun] (fun _ => LSpec.at [3, 5, 2] [] (SChkR (rns s 0) 0) ⟨.ret, [.any, .any, .v (.bool false)], [none]⟩) false Tryd.func21 (by kernel_rfl) (by kernel_rfl) (by kernel_rfl) (by kernel_rfl) (by simp) rfl (oneLoop (b := lpChkR) (by kernel_rfl) hl) <| Meets.of (runChkRR s) <| ?_
    cases hg' : good s 0 with
    | true =>
      repeat' (first | refine wC (by first | omega | (simp only [W1, cond_true, cond_false, hg']; first | done | omega)) ?_ | refine wT (by first | omega | (simp only [W1, cond_true, cond_false, hg']; first | done | omega)) ?_ | refine wF (by intro _h; first | omega | (simp only [W1, cond_true, cond_false, hg'] at _h; first | done | omega)) ?_ | (refine wS ?_ ?_ <;> intro _h <;> simp only [W1, cond_true, cond_false, hg'] at _h))
      all_goals simp only [W1, W2, owesN, owesX, owesR, cond_true, cond_false, hg']
      repeat' (first | apply And.intro | intro _hc)
      all_goals first | exact AV.le_refl _ | exact AV.le_any _ | exact OLe.refl _ | exact OLe.none _ | exact LeH.refl _ | exact LeL.refl _ | exact AV.le.bs _ | exact AV.le.sb _ | omega | contradiction
    | false =>
      repeat' (first | refine wC (by first | omega | (simp only [W1, cond_true, cond_false, hg']; first | done | omega)) ?_ | refine wT (by first | omega | (simp only [W1, cond_true, cond_false, hg']; first | done | omega)) ?_ | refine wF (by intro _h; first | omega | (simp only [W1, cond_true, cond_false, hg'] at _h; first | done | omega)) ?_ | (refine wS ?_ ?_ <;> intro _h <;> simp only [W1, cond_true, cond_false, hg'] at _h))
      all_goals simp only [W1, W2, owesN, owesX, owesR, cond_true, cond_false, hg']
      repeat' (first | apply And.intro | intro _hc)
      all_goals first | exact AV.le_refl _ | exact AV.le_any _ | exact OLe.refl _ | exact OLe.none _ | exact LeH.refl _ | exact LeL.refl _ | exact AV.le.bs _ | exact AV.le.sb _ | omega | contradiction
noncomputable def kChkR : CT Tryd.prog Γm := CT.oS 21 Tryd.func21 (by kernel_rfl) (by kernel_rfl) (fun s => s.size ≤ 100000000) (fun s => .sb (nameB s)) (fun _ => []) (fun s h => ansChkR h)
end Go.Eng.TA

namespace Go.Eng.TA
open Go Go.Eng Go.Eng.M Go.Lib Go.Proofs
theorem run120 (t : ByteArray) : bodyE (P := Tryd.prog) (Γ := Γm) [] Lno false 117 [.tmp 2, .tmp 3] (bodyOf Tryd.f120) [.v (.string t)] [] =
  Tree.br (decide ((↑(ByteArray.size t) : Int) < (1 : Int))) (.leaf (Ans.mk (.tup [.v (.int IntKind.i32 (65533 : Int)), .v (.int .i64 (0 : Int))]) [])) (.chk (decide ((0 : Int) < 
    (↑(ByteArray.size t) : Int))) (.chk (decide ((0 : Int) ≤ sbyte t (Int.toNat (0 : Int))) && decide (sbyte t (Int.toNat (0 : Int)) < (↑(256 : Nat) : Int))) (.br (decide ((240 : Int) 
    ≤ (↑(firstT (Int.toNat (sbyte t (Int.toNat (0 : Int))))) : Int))) (.chk true (.chk (decide ((0 : Int) < (↑(ByteArray.size t) : Int))) (.leaf (Ans.mk (.tup [.v (.int IntKind.i32 
    (bitI BinOp.or IntKind.i32 (bitI BinOp.andNot IntKind.i32 (IntKind.wrap IntKind.i32 (sbyte t (Int.toNat (0 : Int)))) (Int.fdiv (IntKind.wrap IntKind.i32 (IntKind.wrap IntKind.i32 
    (↑(firstT (Int.toNat (sbyte t (Int.toNat (0 : Int))))) : Int) * (2 : Int) ^ min (Int.toNat (31 : Int)) (32 : Nat))) ((2 : Int) ^ min (Int.toNat (31 : Int)) (32 : Nat)))) (bitI 
    BinOp.and IntKind.i32 (65533 : Int) (Int.fdiv (IntKind.wrap IntKind.i32 (IntKind.wrap IntKind.i32 (↑(firstT (Int.toNat (sbyte t (Int.toNat (0 : Int))))) : Int) * (2 : Int) ^ min 
    (Int.toNat (31 : Int)) (32 : Nat))) ((2 : Int) ^ min (Int.toNat (31 : Int)) (32 : Nat)))))), .v (.int .i64 (1 : Int))]) [])))) (.chk true (.chk (decide ((0 : Int) ≤ Int.fdiv 
    (↑(firstT (Int.toNat (sbyte t (Int.toNat (0 : Int))))) : Int) ((2 : Int) ^ min (Int.toNat (4 : Int)) (8 : Nat))) && decide (Int.fdiv (↑(firstT (Int.toNat (sbyte t (Int.toNat (0 : 
    Int))))) : Int) ((2 : Int) ^ min (Int.toNat (4 : Int)) (8 : Nat)) < (↑(16 : Nat) : Int))) (.br (decide ((↑(ByteArray.size t) : Int) < IntKind.wrap IntKind.i64 (bitI BinOp.and 
    IntKind.u8 (↑(firstT (Int.toNat (sbyte t (Int.toNat (0 : Int))))) : Int) (7 : Int)))) (.leaf (Ans.mk (.tup [.v (.int IntKind.i32 (65533 : Int)), .v (.int .i64 (1 : Int))]) [])) 
    (.chk (decide ((1 : Int) < (↑(ByteArray.size t) : Int))) (.br (bif decide (sbyte t (Int.toNat (1 : Int)) < (↑(accLo (Int.toNat (Int.fdiv (↑(firstT (Int.toNat (sbyte t (Int.toNat (0 
    : Int))))) : Int) ((2 : Int) ^ min (Int.toNat (4 : Int)) (8 : Nat))))) : Int)) then true else decide ((↑(accHi (Int.toNat (Int.fdiv (↑(firstT (Int.toNat (sbyte t (Int.toNat (0 : 
    Int))))) : Int) ((2 : Int) ^ min (Int.toNat (4 : Int)) (8 : Nat))))) : Int) < sbyte t (Int.toNat (1 : Int)))) (.leaf (Ans.mk (.tup [.v (.int IntKind.i32 (65533 : Int)), .v (.int 
    .i64 (1 : Int))]) [])) (.br (decide (IntKind.wrap IntKind.i64 (bitI BinOp.and IntKind.u8 (↑(firstT (Int.toNat (sbyte t (Int.toNat (0 : Int))))) : Int) (7 : Int)) ≤ (2 : Int))) 
    (.chk true (.leaf (Ans.mk (.tup [.v (.int IntKind.i32 (bitI BinOp.or IntKind.i32 (IntKind.wrap IntKind.i32 (IntKind.wrap IntKind.i32 (bitI BinOp.and IntKind.u8 (sbyte t (Int.toNat 
    (0 : Int))) (31 : Int)) * (2 : Int) ^ min (Int.toNat (6 : Int)) (32 : Nat))) (IntKind.wrap IntKind.i32 (bitI BinOp.and IntKind.u8 (sbyte t (Int.toNat (1 : Int))) (63 : Int))))), .v 
    (.int .i64 (2 : Int))]) []))) (.chk (decide ((2 : Int) < (↑(ByteArray.size t) : Int))) (.br (bif decide (sbyte t (Int.toNat (2 : Int)) < (128 : Int)) then true else decide ((191 : 
    Int) < sbyte t (Int.toNat (2 : Int)))) (.leaf (Ans.mk (.tup [.v (.int IntKind.i32 (65533 : Int)), .v (.int .i64 (1 : Int))]) [])) (.br (decide (IntKind.wrap IntKind.i64 (bitI 
    BinOp.and IntKind.u8 (↑(firstT (Int.toNat (sbyte t (Int.toNat (0 : Int))))) : Int) (7 : Int)) ≤ (3 : Int))) (.chk true (.leaf (Ans.mk (.tup [.v (.int IntKind.i32 (bitI BinOp.or 
    IntKind.i32 (bitI BinOp.or IntKind.i32 (IntKind.wrap IntKind.i32 (IntKind.wrap IntKind.i32 (bitI BinOp.and IntKind.u8 (sbyte t (Int.toNat (0 : Int))) (15 : Int)) * (2 : Int) ^ min 
    (Int.toNat (12 : Int)) (32 : Nat))) (IntKind.wrap IntKind.i32 (IntKind.wrap IntKind.i32 (bitI BinOp.and IntKind.u8 (sbyte t (Int.toNat (1 : Int))) (63 : Int)) * (2 : Int) ^ min 
    (Int.toNat (6 : Int)) (32 : Nat)))) (IntKind.wrap IntKind.i32 (bitI BinOp.and IntKind.u8 (sbyte t (Int.toNat (2 : Int))) (63 : Int))))), .v (.int .i64 (3 : Int))]) []))) (.chk 
    (decide ((3 : Int) < (↑(ByteArray.size t) : Int))) (.br (bif decide (sbyte t (Int.toNat (3 : Int)) < (128 : Int)) then true else decide ((191 : Int) < sbyte t (Int.toNat (3 : 
    Int)))) (.leaf (Ans.mk (.tup [.v (.int IntKind.i32 (65533 : Int)), .v (.int .i64 (1 : Int))]) [])) (.chk true (.leaf (Ans.mk (.tup [.v (.int IntKind.i32 (bitI BinOp.or IntKind.i32 
    (bitI BinOp.or IntKind.i32 (bitI BinOp.or IntKind.i32 (IntKind.wrap IntKind.i32 (IntKind.wrap IntKind.i32 (bitI BinOp.and IntKind.u8 (sbyte t (Int.toNat (0 : Int))) (7 : Int)) * (2 
    : Int) ^ min (Int.toNat (18 : Int)) (32 : Nat))) (IntKind.wrap IntKind.i32 (IntKind.wrap IntKind.i32 (bitI BinOp.and IntKind.u8 (sbyte t (Int.toNat (1 : Int))) (63 : Int)) * (2 : 
    Int) ^ min (Int.toNat (12 : Int)) (32 : Nat)))) (IntKind.wrap IntKind.i32 (IntKind.wrap IntKind.i32 (bitI BinOp.and IntKind.u8 (sbyte t (Int.toNat (2 : Int))) (63 : Int)) * (2 : 
    Int) ^ min (Int.toNat (6 : Int)) (32 : Nat)))) (IntKind.wrap IntKind.i32 (bitI BinOp.and IntKind.u8 (sbyte t (Int.toNat (3 : Int))) (63 : Int))))), .v (.int .i64 (4 : Int))]) 
    []))))))))))))))))) := by kernel_rfl
theorem firstT_nine (b : Nat) : firstT b = 240 ∨ firstT b = 241 ∨ firstT b = 2 ∨ firstT b = 19 ∨ firstT b = 3 ∨ firstT b = 35 ∨ firstT b = 52 ∨ firstT b = 4 ∨ firstT b = 68 := by
  unfold firstT
  repeat' split
  all_goals simp
theorem xfacts (x : Nat) (h : x = 240 ∨ x = 241 ∨ x = 2 ∨ x = 19 ∨ x = 3 ∨ x = 35 ∨ x = 52 ∨ x = 4 ∨ x = 68) :
    IntKind.wrap IntKind.i64 (bitI BinOp.and IntKind.u8 (x : Int) 7) = ((x % 8 : Nat) : Int) ∧ Int.fdiv (x : Int) ((2 : Int) ^ min (Int.toNat (4 : Int)) (8 : Nat)) = ((x / 16 : Nat) : Int) := by
  rcases h with rfl | rfl | rfl | rfl | rfl | rfl | rfl | rfl | rfl <;> exact ⟨by decide +kernel, by decide +kernel⟩
theorem slowW (n b0 b1 b2 b3 sz lo hi : Nat) : ∃ w, (slowN n b0 b1 b2 b3 sz lo hi).2 = w ∧ ((n < sz ∧ w = 1) ∨ (sz ≤ n ∧ (b1 < lo ∨ hi < b1) ∧ w = 1) ∨ (sz ≤ n ∧ lo ≤ b1 ∧ b1 ≤ hi ∧ sz ≤ 2 ∧ w = 2) ∨ (sz ≤ n ∧ lo ≤ b1 ∧ b1 ≤ hi ∧ 2 < sz ∧ (b2 < 128 ∨ 191 < b2) ∧ w = 1) ∨
    (sz ≤ n ∧ lo ≤ b1 ∧ b1 ≤ hi ∧ 2 < sz ∧ 128 ≤ b2 ∧ b2 ≤ 191 ∧ sz ≤ 3 ∧ w = 3) ∨ (sz ≤ n ∧ lo ≤ b1 ∧ b1 ≤ hi ∧ 3 < sz ∧ 128 ≤ b2 ∧ b2 ≤ 191 ∧ (b3 < 128 ∨ 191 < b3) ∧ w = 1) ∨ (sz ≤ n ∧ lo ≤ b1 ∧ b1 ≤ hi ∧ 3 < sz ∧ 128 ≤ b2 ∧ b2 ≤ 191 ∧ 128 ≤ b3 ∧ b3 ≤ 191 ∧ w = 4)) := by
  refine ⟨_, rfl, ?_⟩
  unfold slowN
  repeat' split
  all_goals simp only [and_true]
  all_goals first | omega | (simp; omega)
def decV (t : ByteArray) : AV := .tup [.any, .v (.int .i64 ((Utf8.decode t 0).2 : Int))]
set_option maxHeartbeats 4000000 in
theorem ansSlow {t : ByteArray} (h : 0 < t.size) : Answers Tryd.prog Γm 120 [.v (.string t)] [] (decV t) [] [] :=
  answers (fn := Tryd.f120) (c := bodyOf Tryd.f120) (ntmps := 117) (results := [.tmp 2, .tmp 3]) [] Lno false Tryd.func120 (by kernel_rfl) (by kernel_rfl) (by kernel_rfl) (by kernel_rfl) (by simp) rfl (noLoops (by kernel_rfl)) <| Meets.of (run120 t) <| by
    have e0 : sbyte t (Int.toNat 0) = (bN t 0 : Int) := rfl
    have e1 : sbyte t (Int.toNat 1) = (bN t 1 : Int) := rfl
    have e2 : sbyte t (Int.toNat 2) = (bN t 2 : Int) := rfl
    have e3 : sbyte t (Int.toNat 3) = (bN t 3 : Int) := rfl
    have l0 := bN_lt t 0
    have l1 := bN_lt t 1
    have l2 := bN_lt t 2
    have l3 := bN_lt t 3
    have hd := decode_bN t 0
    simp only [Nat.sub_zero, Nat.zero_add] at hd
    unfold decV
    rw [hd]
    have h9 := firstT_nine (bN t 0)
    obtain ⟨f1, f2⟩ := xfacts _ h9
    simp only [e0, e1, e2, e3, Int.toNat_natCast, f1, f2]
    rcases Nat.lt_or_ge (firstT (bN t 0)) 240 with hx | hx
    · rw [← slow_eq t.size _ _ _ _ h l1 l2 l3 hx]
      obtain ⟨w, hw, hs⟩ := slowW t.size (bN t 0) (bN t 1) (bN t 2) (bN t 3) (firstT (bN t 0) % 8) (accLo (firstT (bN t 0) / 16)) (accHi (firstT (bN t 0) / 16))
      rw [hw]
      have hz : 2 ≤ firstT (bN t 0) % 8 := by omega
      generalize accLo (firstT (bN t 0) / 16) = lo at *
      generalize accHi (firstT (bN t 0) / 16) = hi at *
      generalize firstT (bN t 0) = x at *
      generalize bN t 0 = b0 at *
      generalize bN t 1 = b1 at *
      generalize bN t 2 = b2 at *
      generalize bN t 3 = b3 at *
      clear f1 f2 hd e0 e1 e2 e3
      repeat' (first | refine wC (by first | omega | (simp only [W1, cond_true, cond_false]; first | done | omega)) ?_ | refine wT (by first | omega | (simp only [W1, cond_true, cond_false]; first | done | omega)) ?_ | refine wF (by intro _h; first | omega | (simp only [W1, cond_true, cond_false] at _h; first | done | omega)) ?_ | (refine wS ?_ ?_ <;> intro _h <;> simp only [W1, cond_true, cond_false] at _h))
      all_goals simp only [W1, W2, owesN, owesX, owesR, cond_true, cond_false]
      repeat' (first | apply And.intro | intro _hc)
      all_goals first | exact tup2 (.any _) (leI (by omega)) | exact AV.le_refl _ | exact AV.le_any _ | exact OLe.refl _ | exact OLe.none _ | exact LeH.refl _ | exact LeL.refl _ | exact AV.le.bs _ | exact AV.le.sb _ | omega | contradiction
    · have hw : (decodeN t.size (bN t 0) (bN t 1) (bN t 2) (bN t 3)).2 = 1 := by
        rcases (show firstT (bN t 0) = 240 ∨ firstT (bN t 0) = 241 by omega) with h | h
        · rw [ascii_eq _ _ _ _ _ h]
        · rw [bad_eq _ _ _ _ _ l0 h]
      rw [hw]
      repeat' (first | refine wC (by first | omega | (simp only [W1, cond_true, cond_false]; first | done | omega)) ?_ | refine wT (by first | omega | (simp only [W1, cond_true, cond_false]; first | done | omega)) ?_ | refine wF (by intro _h; first | omega | (simp only [W1, cond_true, cond_false] at _h; first | done | omega)) ?_ | (refine wS ?_ ?_ <;> intro _h <;> simp only [W1, cond_true, cond_false] at _h))
      all_goals simp only [W1, W2, owesN, owesX, owesR, cond_true, cond_false]
      repeat' (first | apply And.intro | intro _hc)
      all_goals first | exact tup2 (.any _) (leI rfl) | exact AV.le_refl _ | exact AV.le_any _ | exact OLe.refl _ | exact OLe.none _ | exact LeH.refl _ | exact LeL.refl _ | exact AV.le.bs _ | exact AV.le.sb _ | omega | contradiction
noncomputable def k120 : CT Tryd.prog Γm := CT.oS 120 Tryd.func120 (by kernel_rfl) (by kernel_rfl) (fun s => 0 < s.size) decV (fun _ => []) (fun s h => ansSlow h)
theorem run110 (t : ByteArray) : bodyE (P := Tryd.prog) (Γ := Γm) [k120] Lno false 19 [.tmp 2, .tmp 3] (bodyOf Tryd.f110) [.v (.string t)] [] =
  Tree.chk (bif !decide (t = ByteArray.mk #[]) then decide ((0 : Int) < (↑(ByteArray.size t) : Int)) else true) (.br (bif !decide (t = ByteArray.mk #[]) then decide (sbyte t (Int.toNat (0 : 
    Int)) < (128 : Int)) else false) (.chk (decide ((0 : Int) < (↑(ByteArray.size t) : Int))) (.leaf (Ans.mk (.tup [.v (.int IntKind.i32 (IntKind.wrap IntKind.i32 (sbyte t (Int.toNat 
    (0 : Int))))), .v (.int .i64 (1 : Int))]) []))) (.chk (cl ((0 : Nat) < ByteArray.size t ∧ LeL [.v (.string t)] [.v (.string t)] ∧ LeH [] [])) (.leaf (Ans.mk (.tup [.any, .v (.int 
    .i64 (↑(Utf8.decode t (0 : Nat)).snd : Int))]) [])))) := by kernel_rfl
theorem ansDec {t : ByteArray} (h : 0 < t.size) : Answers Tryd.prog Γm 110 [.v (.string t)] [] (decV t) [] [] :=
  answers (fn := Tryd.f110) (c := bodyOf Tryd.f110) (ntmps := 19) (results := [.tmp 2, .tmp 3]) [k120] Lno false Tryd.func110 (by kernel_rfl) (by kernel_rfl) (by kernel_rfl) (by kernel_rfl) (by simp) rfl (noLoops (by kernel_rfl)) <| Meets.of (run110 t) <| by
    have e0 : sbyte t (Int.toNat 0) = (bN t 0 : Int) := rfl
    have hE : ¬ t = ⟨#[]⟩ := fun e => by subst e; cases h
    have hE' : decide (t = ⟨#[]⟩) = false := decide_eq_false hE
    rcases Nat.lt_or_ge (bN t 0) 128 with hb | hb
    · have hw : (Utf8.decode t 0).2 = 1 := by
        rw [decode_bN]
        unfold decodeN
        rw [if_pos hb]
      unfold decV
      rw [hw]
      repeat' (first | refine wC (by first | omega | (simp only [W1, cond_true, cond_false, e0, hE', hE]; first | done | omega)) ?_ | refine wT (by first | omega | (simp only [W1, cond_true, cond_false, e0, hE', hE]; first | done | omega)) ?_ | refine wF (by intro _h; first | omega | (simp only [W1, cond_true, cond_false, e0, hE', hE] at _h; first | done | omega)) ?_ | (refine wS ?_ ?_ <;> intro _h <;> simp only [W1, cond_true, cond_false, e0, hE', hE] at _h))
      all_goals simp only [W1, W2, owesN, owesX, owesR, cond_true, cond_false, e0, hE', hE]
      repeat' (first | apply And.intro | intro _hc)
      all_goals first | exact tup2 (.any _) (leI rfl) | exact AV.le_refl _ | exact AV.le_any _ | exact OLe.refl _ | exact OLe.none _ | exact LeH.refl _ | exact LeL.refl _ | exact AV.le.bs _ | exact AV.le.sb _ | omega | contradiction
    · repeat' (first | refine wC (by first | omega | (simp only [W1, cond_true, cond_false, e0, hE', hE]; first | done | omega)) ?_ | refine wT (by first | omega | (simp only [W1, cond_true, cond_false, e0, hE', hE]; first | done | omega)) ?_ | refine wF (by intro _h; first | omega | (simp only [W1, cond_true, cond_false, e0, hE', hE] at _h; first | done | omega)) ?_ | (refine wS ?_ ?_ <;> intro _h <;> simp only [W1, cond_true, cond_false, e0, hE', hE] at _h))
      all_goals simp only [W1, W2, owesN, owesX, owesR, cond_true, cond_false, e0, hE', hE]
      repeat' (first | apply And.intro | intro _hc)
      all_goals first | exact tup2 (.any _) (leI rfl) | exact AV.le_refl _ | exact AV.le_any _ | exact OLe.refl _ | exact OLe.none _ | exact LeH.refl _ | exact LeL.refl _ | exact AV.le.bs _ | exact AV.le.sb _ | omega | contradiction
noncomputable def k110 : CT Tryd.prog Γm := CT.oS 110 Tryd.func110 (by kernel_rfl) (by kernel_rfl) (fun s => 0 < s.size) decV (fun _ => []) (fun s h => ansDec h)
def ofSPC : List AV → List Blk → Option (ByteArray × Int × Int)
  | [.v (.string s), .v (.int _ p), .v (.int _ c)], [] => some (s, p, c)
  | _, _ => none
theorem run75 (s : ByteArray) (p c : Int) : bodyE (P := Tryd.prog) (Γ := Γm) [k110] Lno false 20 [.tmp 6] (bodyOf Tryd.f75) [.v (.string s), .v (.int .i64 p), .v (.int .i32 c)] [] =
  Tree.br (!decide (c = (65533 : Int))) (.leaf (Ans.mk (.v (.bool false)) [])) (.chk (decide ((0 : Int) ≤ p) && decide (p ≤ (↑(ByteArray.size s) : Int)) && decide ((↑(ByteArray.size s) : 
    Int) ≤ (↑(ByteArray.size s) : Int)) && cl ((0 : Nat) < ByteArray.size (ByteArray.extract s (Int.toNat p) (ByteArray.size s)) ∧ LeL [.v (.string (ByteArray.extract s (Int.toNat p) 
    (ByteArray.size s)))] [.v (.string (ByteArray.extract s (Int.toNat p) (ByteArray.size s)))] ∧ LeH [] [])) (.leaf (Ans.mk (.sb (decide ((↑(Utf8.decode (ByteArray.extract s 
    (Int.toNat p) (ByteArray.size s)) (0 : Nat)).snd : Int) = (1 : Int)))) []))) := by kernel_rfl
theorem ansBrk {s : ByteArray} {p : Nat} (hp : p < s.size) : Answers Tryd.prog Γm 75 [.v (.string s), .v (.int .i64 (p : Int)), .v (.int .i32 ((Utf8.decode s p).1 : Int))] [] (.sb (!okAt s p)) [] [] :=
  answers (fn := Tryd.f75) (c := bodyOf Tryd.f75) (ntmps := 20) (results := [.tmp 6]) [k110] Lno false Tryd.func75 (by kernel_rfl) (by kernel_rfl) (by kernel_rfl) (by kernel_rfl) (by simp) rfl (noLoops (by kernel_rfl)) <| Meets.of (run75 s p ((Utf8.decode s p).1 : Int)) <| by
    have hz : (s.extract p s.size).size = s.size - p := ext_size _ _ _ (Nat.le_refl _)
    have hde := dec_ext (s := s) (p := p) (by omega)
    by_cases hc : (Utf8.decode s p).1 = 65533
    · by_cases hw : (Utf8.decode s p).2 = 1
      · rw [okAt_f (Prod.ext hc hw)]
        repeat' (first | refine wC (by first | omega | (simp only [W1, cond_true, cond_false, hz, hde, hc, hw]; first | done | omega)) ?_ | refine wT (by first | omega | (simp only [W1, cond_true, cond_false, hz, hde, hc, hw]; first | done | omega)) ?_ | refine wF (by intro _h; first | omega | (simp only [W1, cond_true, cond_false, hz, hde, hc, hw] at _h; first | done | omega)) ?_ | (refine wS ?_ ?_ <;> intro _h <;> simp only [W1, cond_true, cond_false, hz, hde, hc, hw] at _h))
        all_goals simp only [W1, W2, owesN, owesX, owesR, cond_true, cond_false, hz, hde, hc, hw]
        repeat' (first | apply And.intro | intro _hc)
        all_goals first | exact leB' (by simp [hde, hw]) | exact AV.le_refl _ | exact AV.le_any _ | exact OLe.refl _ | exact OLe.none _ | exact LeH.refl _ | exact LeL.refl _ | exact AV.le.bs _ | exact AV.le.sb _ | omega | contradiction
      · rw [okAt_t rfl (fun e => hw (congrArg Prod.snd e))]
        repeat' (first | refine wC (by first | omega | (simp only [W1, cond_true, cond_false, hz, hde, hc]; first | done | omega)) ?_ | refine wT (by first | omega | (simp only [W1, cond_true, cond_false, hz, hde, hc]; first | done | omega)) ?_ | refine wF (by intro _h; first | omega | (simp only [W1, cond_true, cond_false, hz, hde, hc] at _h; first | done | omega)) ?_ | (refine wS ?_ ?_ <;> intro _h <;> simp only [W1, cond_true, cond_false, hz, hde, hc] at _h))
        all_goals simp only [W1, W2, owesN, owesX, owesR, cond_true, cond_false, hz, hde, hc]
        repeat' (first | apply And.intro | intro _hc)
        all_goals first | exact leB' (decide_eq_false (by omega)) | exact AV.le_refl _ | exact AV.le_any _ | exact OLe.refl _ | exact OLe.none _ | exact LeH.refl _ | exact LeL.refl _ | exact AV.le.bs _ | exact AV.le.sb _ | omega | contradiction
    · rw [okAt_t rfl (fun e => hc (congrArg Prod.fst e))]
      repeat' (first | refine wC (by first | omega | (simp only [W1, cond_true, cond_false]; first | done | omega)) ?_ | refine wT (by first | omega | (simp only [W1, cond_true, cond_false]; first | done | omega)) ?_ | refine wF (by intro _h; first | omega | (simp only [W1, cond_true, cond_false] at _h; first | done | omega)) ?_ | (refine wS ?_ ?_ <;> intro _h <;> simp only [W1, cond_true, cond_false] at _h))
      all_goals simp only [W1, W2, owesN, owesX, owesR, cond_true, cond_false]
      repeat' (first | apply And.intro | intro _hc)
      all_goals first | exact AV.le_refl _ | exact AV.le_any _ | exact OLe.refl _ | exact OLe.none _ | exact LeH.refl _ | exact LeL.refl _ | exact AV.le.bs _ | exact AV.le.sb _ | omega | contradiction
noncomputable def k75 : CT Tryd.prog Γm := CT.par 75 ofSPC (fun x => 0 ≤ x.2.1 ∧ x.2.1 < (x.1.size : Int) ∧ x.2.2 = ((Utf8.decode x.1 x.2.1.toNat).1 : Int)) (fun x => [.v (.string x.1), .v (.int .i64 x.2.1), .v (.int .i32 x.2.2)]) (fun _ => []) (fun x => .sb (!okAt x.1 x.2.1.toNat)) (fun _ => []) (fun _ => [])
  (callFunc_enters Tryd.func75 (by kernel_rfl) (by kernel_rfl)) (fun x ⟨h1, h2, h3⟩ => by
    obtain ⟨s, p, c⟩ := x
    obtain ⟨q, rfl⟩ := Int.eq_ofNat_of_zero_le h1
    dsimp only at h2 h3 ⊢
    rw [h3]
    simp only [Int.toNat_natCast]
    exact ansBrk (by omega))
end Go.Eng.TA

namespace Go.Eng.TA
open Go Go.Eng Go.Eng.M Go.Lib Go.Proofs
def valN (c : Nat) : Bool := decide (32 ≤ c ∧ c ≠ 127)
def fineV (s : ByteArray) (p : Nat) : Bool := (rns s p).all valN && good s p
def valueB (s : ByteArray) : Bool := fineV s 0 && decide ((rns s 0).length ≤ 32)
noncomputable abbrev lpVal : Code := loopOf (bodyOf Tryd.f22) 0
def SVal (s : ByteArray) (x : XP) : List AV × Heap := ([.v (.string s), .v (.int .i64 (x.k : Int)), .its 0, .any], [some (.sit s x.p)])
def retVal : Out := ⟨.ret, [.any, .any, .any, .v (.int .i64 20)], [none]⟩
def endVal (s : ByteArray) : Out := ⟨.exit 0, [.any, .v (.int .i64 ((rns s 0).length : Int)), .any, .any], [none]⟩
def OVal (s : ByteArray) : Out := bif fineV s 0 then endVal s else retVal
theorem rVal (s : ByteArray) (x : XP) : roundE (P := Tryd.prog) (Γ := Γm) [k75] Lno false 0 0 lpVal [0, 3, 7, 2] [] 28 (SVal s x).1 (SVal s x).2 =
  Tree.br (decide (x.p < ByteArray.size s)) (.chk (bif decide ((↑(Utf8.decode s x.p).fst : Int) < (32 : Int)) then true else bif decide ((↑(Utf8.decode s x.p).fst : Int) = (127 : Int)) then 
    true else cl (((0 : Int) ≤ (↑x.p : Int) ∧ (↑x.p : Int) < (↑(ByteArray.size s) : Int) ∧ (↑(Utf8.decode s x.p).fst : Int) = (↑(Utf8.decode s x.p).fst : Int)) ∧ LeL [.v (.string s), 
    .v (.int .i64 (↑x.p : Int)), .v (.int IntKind.i32 (↑(Utf8.decode s x.p).fst : Int))] [.v (.string s), .v (.int .i64 (↑x.p : Int)), .v (.int IntKind.i32 (↑(Utf8.decode s x.p).fst : 
    Int))] ∧ LeH [] [])) (.br (bif decide ((↑(Utf8.decode s x.p).fst : Int) < (32 : Int)) then true else bif decide ((↑(Utf8.decode s x.p).fst : Int) = (127 : Int)) then true else 
    !okAt s x.p) (.leaf (.mk .ret [.v (.string s), .v (.int .i64 (↑x.k : Int)), AV.its (0 : Nat), .v (.int .i64 (20 : Int))] [some (Blk.sit s (x.p + (Utf8.decode s x.p).snd))])) (.leaf 
    (.mk .normal [.v (.string s), .v (.int .i64 (IntKind.wrap IntKind.i64 ((↑x.k : Int) + (1 : Int)))), AV.its (0 : Nat), .any] [some (Blk.sit s (x.p + (Utf8.decode s x.p).snd))])))) 
    (.leaf (.mk (.exit 0) [.v (.string s), .v (.int .i64 (↑x.k : Int)), AV.its (0 : Nat), .any] [some (Blk.sit s x.p)])) := by kernel_rfl
theorem loopVal {s : ByteArray} (hs : s.size ≤ 1000000000) : ∀ x : XP, (x.p ≤ s.size ∧ x.k + (rns s x.p).length = (rns s 0).length ∧ fineV s x.p = fineV s 0) → LoopOK Tryd.prog Γm 0 28 lpVal (LSpec.at [0, 3, 7, 2] [] (SVal s x) (OVal s)) := by
  refine loop_at (S := SVal s) (O := fun _ => OVal s) (k := 0) (fun x => s.size - x.p) fun x hp => .of (noLoops (by kernel_rfl)) (rVal s x) ?_
  obtain ⟨p, k⟩ := x
  obtain ⟨h1, h2, h3⟩ := hp
  have hl : (rns s 0).length ≤ s.size - 0 := rns_len
  dsimp only at h1 h2 h3
  rcases Nat.lt_or_ge p s.size with hi | hi
  · have hst := rns_step hi
    have hd := dec_pos s p
    have hle := dec_le hi
    rw [hst, List.length_cons] at h2
    have hf : fineV s p = ((valN (Utf8.decode s p).1 && okAt s p) && fineV s (p + (Utf8.decode s p).2)) := by
      unfold fineV
      rw [hst, List.all_cons, good_ok hi]
      cases valN (Utf8.decode s p).1 <;> cases okAt s p <;> simp
    by_cases hv : 32 ≤ (Utf8.decode s p).1 ∧ (Utf8.decode s p).1 ≠ 127
    · rw [show valN (Utf8.decode s p).1 = true from decide_eq_true hv, Bool.true_and] at hf
      cases ho : okAt s p with
      | true =>
        rw [ho, Bool.true_and] at hf
        repeat' (first | refine wC (by first | omega | (simp only [W1, cond_true, cond_false, ho, wrapUpN (show k ≤ 10000000000 by omega)]; first | done | omega)) ?_ | refine wT (by first | omega | (simp only [W1, cond_true, cond_false, ho, wrapUpN (show k ≤ 10000000000 by omega)]; first | done | omega)) ?_ | refine wF (by intro _h; first | omega | (simp only [W1, cond_true, cond_false, ho, wrapUpN (show k ≤ 10000000000 by omega)] at _h; first | done | omega)) ?_ | (refine wS ?_ ?_ <;> intro _h <;> simp only [W1, cond_true, cond_false, ho, wrapUpN (show k ≤ 10000000000 by omega)] at _h))
        all_goals simp only [W1, W2, owesN, owesX, owesR, cond_true, cond_false, ho, wrapUpN (show k ≤ 10000000000 by omega)]
        repeat' (first | apply And.intro | intro _hc)
        all_goals first | exact ⟨⟨p + (Utf8.decode s p).2, k + 1⟩, LeL.refl _, LeH.refl _, ⟨hle, by dsimp only; omega, by dsimp only; rw [← hf, h3]⟩, by dsimp only; omega⟩ | exact AV.le_refl _ | exact AV.le_any _ | exact OLe.refl _ | exact OLe.none _ | exact LeH.refl _ | exact LeL.refl _ | exact AV.le.bs _ | exact AV.le.sb _ | omega | contradiction
      | false =>
        rw [ho, Bool.false_and] at hf
        rw [show OVal s = retVal by unfold OVal; rw [← h3, hf]; rfl]
        repeat' (first | refine wC (by first | omega | (simp only [W1, cond_true, cond_false, ho]; first | done | omega)) ?_ | refine wT (by first | omega | (simp only [W1, cond_true, cond_false, ho]; first | done | omega)) ?_ | refine wF (by intro _h; first | omega | (simp only [W1, cond_true, cond_false, ho] at _h; first | done | omega)) ?_ | (refine wS ?_ ?_ <;> intro _h <;> simp only [W1, cond_true, cond_false, ho] at _h))
        all_goals simp only [W1, W2, owesN, owesX, owesR, cond_true, cond_false, ho]
        repeat' (first | apply And.intro | intro _hc)
        all_goals first | exact rfl | exact AV.le_refl _ | exact AV.le_any _ | exact OLe.refl _ | exact OLe.none _ | exact LeH.refl _ | exact LeL.refl _ | exact AV.le.bs _ | exact AV.le.sb _ | omega | contradiction
    · rw [show valN (Utf8.decode s p).1 = false from decide_eq_false hv, Bool.false_and, Bool.false_and] at hf
      rw [show OVal s = retVal by unfold OVal; rw [← h3, hf]; rfl]
      repeat' (first | refine wC (by first | omega | (simp only [W1, cond_true, cond_false]; first | done | omega)) ?_ | refine wT (by first | omega | (simp only [W1, cond_true, cond_false]; first | done | omega)) ?_ | refine wF (by intro _h; first | omega | (simp only [W1, cond_true, cond_false] at _h; first | done | omega)) ?_ | (refine wS ?_ ?_ <;> intro _h <;> simp only [W1, cond_true, cond_false] at _h))
      all_goals simp only [W1, W2, owesN, owesX, owesR, cond_true, cond_false]
      repeat' (first | apply And.intro | intro _hc)
      all_goals first | exact rfl | exact AV.le_refl _ | exact AV.le_any _ | exact OLe.refl _ | exact OLe.none _ | exact LeH.refl _ | exact LeL.refl _ | exact AV.le.bs _ | exact AV.le.sb _ | omega | contradiction
  · rw [rns_end hi, List.length_nil] at h2
    have h2 : k = (rns s 0).length := by omega
    subst h2
    have hf : fineV s 0 = true := by
      rw [← h3]; unfold fineV; rw [rns_end hi, good_end hi]; rfl
    rw [show OVal s = endVal s by unfold OVal; rw [hf]; rfl]
    repeat' (first | refine wC (by first | omega | (simp only [W1, cond_true, cond_false]; first | done | omega)) ?_ | refine wT (by first | omega | (simp only [W1, cond_true, cond_false]; first | done | omega)) ?_ | refine wF (by intro _h; first | omega | (simp only [W1, cond_true, cond_false] at _h; first | done | omega)) ?_ | (refine wS ?_ ?_ <;> intro _h <;> simp only [W1, cond_true, cond_false] at _h))
    all_goals simp only [W1, W2, owesN, owesX, owesR, cond_true, cond_false]
    repeat' (first | apply And.intro | intro _hc)
    all_goals first | exact rfl | exact AV.le_refl _ | exact AV.le_any _ | exact OLe.refl _ | exact OLe.none _ | exact LeH.refl _ | exact LeL.refl _ | exact AV.le.bs _ | exact AV.le.sb _ | omega | contradiction
theorem runValE (s : ByteArray) : bodyE (P := Tryd.prog) (Γ := Γm) [] (fun _ => LSpec.at [0, 3, 7, 2] [] (SVal s ⟨0, 0⟩) (endVal s)) false 28 [.tmp 2] (bodyOf Tryd.f22) [.v (.string s)] [] =
  Tree.chk (cl (LeL [.v (.string s), .v (.int .i64 (0 : Int)), AV.its (0 : Nat), .v (.int .i64 (0 : Int))] [.v (.string s), .v (.int .i64 (↑(0 : Nat) : Int)), AV.its (0 : Nat), .any] ∧ LeH 
    [some (Blk.sit s (0 : Nat))] [some (Blk.sit s (0 : Nat))])) (.br (decide ((32 : Int) < (↑(List.length (rns s (0 : Nat))) : Int))) (.leaf (Ans.mk (.v (.int .i64 (20 : Int))) [])) 
    (.leaf (Ans.mk (.v (.int .i64 (0 : Int))) []))) := by kernel_rfl
theorem runValR (s : ByteArray) : bodyE (P := Tryd.prog) (Γ := Γm) [] (fun _ => LSpec.at [0, 3, 7, 2] [] (SVal s ⟨0, 0⟩) retVal) false 28 [.tmp 2] (bodyOf Tryd.f22) [.v (.string s)] [] =
  Tree.chk (cl (LeL [.v (.string s), .v (.int .i64 (0 : Int)), AV.its (0 : Nat), .v (.int .i64 (0 : Int))] [.v (.string s), .v (.int .i64 (↑(0 : Nat) : Int)), AV.its (0 : Nat), .any] ∧ LeH 
    [some (Blk.sit s (0 : Nat))] [some (Blk.sit s (0 : Nat))])) (.leaf (Ans.mk (.v (.int .i64 (20 : Int))) [])) := by kernel_rfl
theorem ansVal {s : ByteArray} (hs : s.size ≤ 1000000000) : Answers Tryd.prog Γm 22 [.v (.string s)] [] (.v (.int .i64 (erN (valueB s)))) [] [] := by
  have hl := loopVal hs ⟨0, 0⟩ ⟨Nat.zero_le _, Nat.zero_add _, rfl⟩
  unfold OVal at hl
  unfold valueB
  cases hf : fineV s 0 with
  | true =>
    rw [hf, cond_true] at hl
    refine answers (fn := Tryd.f22) (c := bodyOf Tryd.f22) (ntmps := 28) (results := [.tmp 2]) [] (fun _ => LSpec.at [0, 3, 7, 2] [] (SVal s ⟨0, 0⟩) (endVal s)) false Tryd.func22 (by kernel_rfl) (by kernel_rfl) (by kernel_rfl) (by kernel_rfl) (by simp) rfl (oneLoop (b := lpVal) (by kernel_rfl) hl) <| Meets.of (runValE s) <| ?_
    by_cases h : (rns s 0).length ≤ 32
    · rw [decide_eq_true h]
      repeat' (first | refine wC (by first | omega | (simp only [W1, cond_true, cond_false]; first | done | omega)) ?_ | refine wT (by first | omega | (simp only [W1, cond_true, cond_false]; first | done | omega)) ?_ | refine wF (by intro _h; first | omega | (simp only [W1, cond_true, cond_false] at _h; first | done | omega)) ?_ | (refine wS ?_ ?_ <;> intro _h <;> simp only [W1, cond_true, cond_false] at _h))
      all_goals simp only [W1, W2, owesN, owesX, owesR, cond_true, cond_false]
      repeat' (first | apply And.intro | intro _hc)
      all_goals first | exact leI rfl | exact AV.le_refl _ | exact AV.le_any _ | exact OLe.refl _ | exact OLe.none _ | exact LeH.refl _ | exact LeL.refl _ | exact AV.le.bs _ | exact AV.le.sb _ | omega | contradiction
    · rw [decide_eq_false h]
      repeat' (first | refine wC (by first | omega | (simp only [W1, cond_true, cond_false]; first | done | omega)) ?_ | refine wT (by first | omega | (simp only [W1, cond_true, cond_false]; first | done | omega)) ?_ | refine wF (by intro _h; first | omega | (simp only [W1, cond_true, cond_false] at _h; first | done | omega)) ?_ | (refine wS ?_ ?_ <;> intro _h <;> simp only [W1, cond_true, cond_false] at _h))
      all_goals simp only [W1, W2, owesN, owesX, owesR, cond_true, cond_false]
      repeat' (first | apply And.intro | intro _hc)
      all_goals first | exact leI rfl | exact AV.le_refl _ | exact AV.le_any _ | exact OLe.refl _ | exact OLe.none _ | exact LeH.refl _ | exact LeL.refl _ | exact AV.le.bs _ | exact AV.le.sb _ | omega | contradiction
  | false =>
    rw [hf, cond_false] at hl
    refine answers (fn := Tryd.f22) (c := bodyOf Tryd.f22) (ntmps := 28) (results := [.tmp 2]) [] (fun _ => LSpec.at [0, 3, 7, 2] [] (SVal s ⟨0, 0⟩) retVal) false Tryd.func22 (by kernel_rfl) (by kernel_rfl) (by kernel_rfl) (by kernel_rfl) (by simp) rfl (oneLoop (b := lpVal) (by kernel_rfl) hl) <| Meets.of (runValR s) <| ?_
    repeat' (first | refine wC (by first | omega | (simp only [W1, cond_true, cond_false]; first | done | omega)) ?_ | refine wT (by first | omega | (simp only [W1, cond_true, cond_false]; first | done | omega)) ?_ | refine wF (by intro _h; first | omega | (simp only [W1, cond_true, cond_false] at _h; first | done | omega)) ?_ | (refine wS ?_ ?_ <;> intro _h <;> simp only [W1, cond_true, cond_false] at _h))
    all_goals simp only [W1, W2, owesN, owesX, owesR, cond_true, cond_false]
    repeat' (first | apply And.intro | intro _hc)
    all_goals first | exact leI rfl | exact AV.le_refl _ | exact AV.le_any _ | exact OLe.refl _ | exact OLe.none _ | exact LeH.refl _ | exact LeL.refl _ | exact AV.le.bs _ | exact AV.le.sb _ | omega | contradiction
noncomputable def kVal : CT Tryd.prog Γm := CT.oS 22 Tryd.func22 (by kernel_rfl) (by kernel_rfl) (fun s => s.size ≤ 1000000000) (fun s => .v (.int .i64 (erN (valueB s)))) (fun _ => []) (fun s h => ansVal h)
noncomputable abbrev lpValR : Code := loopOf (bodyOf Tryd.f23) 0
def SValR (l : List Nat) (i : Nat) : List AV × Heap := ([.hs 0 0 l.length, .v (.int .i64 (i : Int)), .any], [some (i1B l)])
def OValR (l : List Nat) : Out := bif l.all valN then ⟨.exit 0, [.any, .any, .any], [none]⟩ else ⟨.ret, [.any, .any, .v (.bool false)], [none]⟩
theorem rValR (l : List Nat) (i : Nat) : roundE (P := Tryd.prog) (Γ := Γm) [] Lno false 0 0 lpValR [3, 5, 2] [] 36 (SValR l i).1 (SValR l i).2 =
  Tree.br (decide ((↑i : Int) < (↑(List.length l) : Int))) (.chk (decide ((0 : Int) ≤ (↑i : Int)) && decide ((↑i : Int) < (↑(List.length l) : Int)) && bif decide ((↑(List.getD l ((0 : Nat) + 
    i) default) : Int) < (32 : Int)) then true else decide ((0 : Int) ≤ (↑i : Int)) && decide ((↑i : Int) < (↑(List.length l) : Int))) (.br (bif decide ((↑(List.getD l ((0 : Nat) + i) 
    default) : Int) < (32 : Int)) then true else decide ((↑(List.getD l ((0 : Nat) + i) default) : Int) = (127 : Int))) (.leaf (.mk .ret [.hs 0 0 (List.length l), .v (.int .i64 (↑i : 
    Int)), .v (.bool false)] [some (.arr 1 (List.length l) (lsF I1.c l))])) (.leaf (.mk .normal [.hs 0 0 (List.length l), .v (.int .i64 (IntKind.wrap IntKind.i64 ((↑i : Int) + (1 : 
    Int)))), .any] [some (.arr 1 (List.length l) (lsF I1.c l))])))) (.leaf (.mk (.exit 0) [.hs 0 0 (List.length l), .v (.int .i64 (↑i : Int)), .any] [some (.arr 1 (List.length l) (lsF 
    I1.c l))])) := by kernel_rfl
theorem loopValR {l : List Nat} (hs : l.length ≤ 1000000000) : ∀ i : Nat, (i ≤ l.length ∧ (l.drop i).all valN = l.all valN) → LoopOK Tryd.prog Γm 0 36 lpValR (LSpec.at [3, 5, 2] [] (SValR l i) (OValR l)) := by
  refine loop_at (S := SValR l) (O := fun _ => OValR l) (k := 0) (fun i => l.length - i) fun i hp => .of (noLoops (by kernel_rfl)) (rValR l i) ?_
  obtain ⟨h1, h2⟩ := hp
  rcases Nat.lt_or_ge i l.length with hi | hi
  · rw [all_drop hi] at h2
    by_cases hv : 32 ≤ l.getD i default ∧ l.getD i default ≠ 127
    · rw [show valN (l.getD i default) = true from decide_eq_true hv, Bool.true_and] at h2
      repeat' (first | refine wC (by first | omega | (simp only [W1, cond_true, cond_false, wrapUpN (show i ≤ 10000000000 by omega)]; first | done | omega)) ?_ | refine wT (by first | omega | (simp only [W1, cond_true, cond_false, wrapUpN (show i ≤ 10000000000 by omega)]; first | done | omega)) ?_ | refine wF (by intro _h; first | omega | (simp only [W1, cond_true, cond_false, wrapUpN (show i ≤ 10000000000 by omega)] at _h; first | done | omega)) ?_ | (refine wS ?_ ?_ <;> intro _h <;> simp only [W1, cond_true, cond_false, wrapUpN (show i ≤ 10000000000 by omega)] at _h))
      all_goals simp only [W1, W2, owesN, owesX, owesR, cond_true, cond_false, wrapUpN (show i ≤ 10000000000 by omega)]
      repeat' (first | apply And.intro | intro _hc)
      all_goals first | exact ⟨i + 1, LeL.refl _, LeH.refl _, ⟨hi, h2⟩, by omega⟩ | exact AV.le_refl _ | exact AV.le_any _ | exact OLe.refl _ | exact OLe.none _ | exact LeH.refl _ | exact LeL.refl _ | exact AV.le.bs _ | exact AV.le.sb _ | omega | contradiction
    · rw [show valN (l.getD i default) = false from decide_eq_false hv, Bool.false_and] at h2
      unfold OValR
      rw [← h2, cond_false]
      repeat' (first | refine wC (by first | omega | (simp only [W1, cond_true, cond_false]; first | done | omega)) ?_ | refine wT (by first | omega | (simp only [W1, cond_true, cond_false]; first | done | omega)) ?_ | refine wF (by intro _h; first | omega | (simp only [W1, cond_true, cond_false] at _h; first | done | omega)) ?_ | (refine wS ?_ ?_ <;> intro _h <;> simp only [W1, cond_true, cond_false] at _h))
      all_goals simp only [W1, W2, owesN, owesX, owesR, cond_true, cond_false]
      repeat' (first | apply And.intro | intro _hc)
      all_goals first | exact rfl | exact AV.le_refl _ | exact AV.le_any _ | exact OLe.refl _ | exact OLe.none _ | exact LeH.refl _ | exact LeL.refl _ | exact AV.le.bs _ | exact AV.le.sb _ | omega | contradiction
  · rw [List.drop_eq_nil_of_le hi] at h2
    unfold OValR
    rw [← h2, List.all_nil, cond_true]
    repeat' (first | refine wC (by first | omega | (simp only [W1, cond_true, cond_false]; first | done | omega)) ?_ | refine wT (by first | omega | (simp only [W1, cond_true, cond_false]; first | done | omega)) ?_ | refine wF (by intro _h; first | omega | (simp only [W1, cond_true, cond_false] at _h; first | done | omega)) ?_ | (refine wS ?_ ?_ <;> intro _h <;> simp only [W1, cond_true, cond_false] at _h))
    all_goals simp only [W1, W2, owesN, owesX, owesR, cond_true, cond_false]
    repeat' (first | apply And.intro | intro _hc)
    all_goals first | exact rfl | exact AV.le_refl _ | exact AV.le_any _ | exact OLe.refl _ | exact OLe.none _ | exact LeH.refl _ | exact LeL.refl _ | exact AV.le.bs _ | exact AV.le.sb _ | omega | contradiction
theorem runValRE (s : ByteArray) : bodyE (P := Tryd.prog) (Γ := Γm) [kRun] (fun _ => LSpec.at [3, 5, 2] [] (SValR (rns s 0) 0) ⟨.exit 0, [.any, .any, .any], [none]⟩) false 36 [.tmp 2] (bodyOf Tryd.f23) [.v (.string s)] [] =
  Tree.chk (cl (ByteArray.size s ≤ (100000000 : Nat) ∧ LeL [.v (.string s)] [.v (.string s)] ∧ LeH [] [])) (.br (bif !good s (0 : Nat) then true else decide ((32 : Int) < (↑(List.length (rns 
    s (0 : Nat))) : Int))) (.leaf (Ans.mk (.v (.bool false)) [])) (.chk (cl (LeL [.hs 0 0 (List.length (rns s (0 : Nat))), .v (.int .i64 (0 : Int)), .v (.bool false)] [.hs 0 0 
    (List.length (rns s (0 : Nat))), .v (.int .i64 (↑(0 : Nat) : Int)), .any] ∧ LeH [some (.arr 1 (List.length (rns s (0 : Nat))) (lsF I1.c (rns s (0 : Nat))))] [some (.arr 1 
    (List.length (rns s (0 : Nat))) (lsF I1.c (rns s (0 : Nat))))])) (.leaf (Ans.mk (.v (.bool true)) [])))) := by kernel_rfl
theorem runValRR (s : ByteArray) : bodyE (P := Tryd.prog) (Γ := Γm) [kRun] (fun _ => LSpec.at [3, 5, 2] [] (SValR (rns s 0) 0) ⟨.ret, [.any, .any, .v (.bool false)], [none]⟩) false 36 [.tmp 2] (bodyOf Tryd.f23) [.v (.string s)] [] =
  Tree.chk (cl (ByteArray.size s ≤ (100000000 : Nat) ∧ LeL [.v (.string s)] [.v (.string s)] ∧ LeH [] [])) (.br (bif !good s (0 : Nat) then true else decide ((32 : Int) < (↑(List.length (rns 
    s (0 : Nat))) : Int))) (.leaf (Ans.mk (.v (.bool false)) [])) (.chk (cl (LeL [.hs 0 0 (List.length (rns s (0 : Nat))), .v (.int .i64 (0 : Int)), .v (.bool false)] [.hs 0 0 
    (List.length (rns s (0 : Nat))), .v (.int .i64 (↑(0 : Nat) : Int)), .any] ∧ LeH [some (.arr 1 (List.length (rns s (0 : Nat))) (lsF I1.c (rns s (0 : Nat))))] [some (.arr 1 
    (List.length (rns s (0 : Nat))) (lsF I1.c (rns s (0 : Nat))))])) (.leaf (Ans.mk (.v (.bool false)) [])))) := by kernel_rfl
theorem ansValR {s : ByteArray} (hs : s.size ≤ 100000000) : Answers Tryd.prog Γm 23 [.v (.string s)] [] (.sb (valueB s)) [] [] := by
  have hln : (rns s 0).length ≤ s.size - 0 := rns_len
  have hl := loopValR (l := rns s 0) (by omega) 0 ⟨Nat.zero_le _, rfl⟩
  have hnm : valueB s = (((rns s 0).all valN && good s 0) && decide ((rns s 0).length ≤ 32)) := rfl
  unfold OValR at hl
  rw [hnm]
  cases hA : (rns s 0).all valN with
  | true =>
    rw [hA, cond_true] at hl
    refine answers (fn := Tryd.f23) (c := bodyOf Tryd.f23) (ntmps := 36) (results := [.tmp 2]) [kRun] (fun _ => LSpec.at [3, 5, 2] [] (SValR (rns s 0) 0) ⟨.exit 0, [.any, .any, .any], [none]⟩) false Tryd.func23 (by kernel_rfl) (by kernel_rfl) (by kernel_rfl) (by kernel_rfl) (by simp) rfl (oneLoop (b := lpValR) (by kernel_rfl) hl) <| Meets.of (runValRE s) <| ?_
    cases hg : good s 0 with
    | true =>
      by_cases h : (rns s 0).length ≤ 32
      · rw [decide_eq_true h]
        repeat' (first | refine wC (by first | omega | (simp only [W1, cond_true, cond_false, hg]; first | done | omega)) ?_ | refine wT (by first | omega | (simp only [W1, cond_true, cond_false, hg]; first | done | omega)) ?_ | refine wF (by intro _h; first | omega | (simp only [W1, cond_true, cond_false, hg] at _h; first | done | omega)) ?_ | (refine wS ?_ ?_ <;> intro _h <;> simp only [W1, cond_true, cond_false, hg] at _h))
        all_goals simp only [W1, W2, owesN, owesX, owesR, cond_true, cond_false, hg]
        repeat' (first | apply And.intro | intro _hc)
        all_goals first | exact AV.le_refl _ | exact AV.le_any _ | exact OLe.refl _ | exact OLe.none _ | exact LeH.refl _ | exact LeL.refl _ | exact AV.le.bs _ | exact AV.le.sb _ | omega | contradiction
      · rw [decide_eq_false h]
        repeat' (first | refine wC (by first | omega | (simp only [W1, cond_true, cond_false, hg]; first | done | omega)) ?_ | refine wT (by first | omega | (simp only [W1, cond_true, cond_false, hg]; first | done | omega)) ?_ | refine wF (by intro _h; first | omega | (simp only [W1, cond_true, cond_false, hg] at _h; first | done | omega)) ?_ | (refine wS ?_ ?_ <;> intro _h <;> simp only [W1, cond_true, cond_false, hg] at _h))
        all_goals simp only [W1, W2, owesN, owesX, owesR, cond_true, cond_false, hg]
        repeat' (first | apply And.intro | intro _hc)
        all_goals first | exact AV.le_refl _ | exact AV.le_any _ | exact OLe.refl _ | exact OLe.none _ | exact LeH.refl _ | exact LeL.refl _ | exact AV.le.bs _ | exact AV.le.sb _ | omega | contradiction
    | false =>
      repeat' (first | refine wC (by first | omega | (simp only [W1, cond_true, cond_false, hg]; first | done | omega)) ?_ | refine wT (by first | omega | (simp only [W1, cond_true, cond_false, hg]; first | done | omega)) ?_ | refine wF (by intro _h; first | omega | (simp only [W1, cond_true, cond_false, hg] at _h; first | done | omega)) ?_ | (refine wS ?_ ?_ <;> intro _h <;> simp only [W1, cond_true, cond_false, hg] at _h))
      all_goals simp only [W1, W2, owesN, owesX, owesR, cond_true, cond_false, hg]
      repeat' (first | apply And.intro | intro _hc)
      all_goals first | exact AV.le_refl _ | exact AV.le_any _ | exact OLe.refl _ | exact OLe.none _ | exact LeH.refl _ | exact LeL.refl _ | exact AV.le.bs _ | exact AV.le.sb _ | omega | contradiction
  | false =>
    rw [hA, cond_false] at hl
    refine answers (fn := Tryd.f23) (c := bodyOf Tryd.f23) (ntmps := 36) (results := [.tmp 2]) [kRun] (fun _ => LSpec.at [3, 5, 2] [] (SValR (rns s 0) 0) ⟨.ret, [.any, .any, .v (.bool false)], [none]⟩) false Tryd.func23 (by kernel_rfl) (by kernel_rfl) (by kernel_rfl) (by kernel_rfl) (by simp) rfl (oneLoop (b := lpValR) (by kernel_rfl) hl) <| Meets.of (runValRR s) <| ?_
    cases hg : good s 0 with
    | true =>
      repeat' (first | refine wC (by first | omega | (simp only [W1, cond_true, cond_false, hg]; first | done | omega)) ?_ | refine wT (by first | omega | (simp only [W1, cond_true, cond_false, hg]; first | done | omega)) ?_ | refine wF (by intro _h; first | omega | (simp only [W1, cond_true, cond_false, hg] at _h; first | done | omega)) ?_ | (refine wS ?_ ?_ <;> intro _h <;> simp only [W1, cond_true, cond_false, hg] at _h))
      all_goals simp only [W1, W2, owesN, owesX, owesR, cond_true, cond_false, hg]
      repeat' (first | apply And.intro | intro _hc)
      all_goals first | exact AV.le_refl _ | exact AV.le_any _ | exact OLe.refl _ | exact OLe.none _ | exact LeH.refl _ | exact LeL.refl _ | exact AV.le.bs _ | exact AV.le.sb _ | omega | contradiction
    | false =>
      repeat' (first | refine wC (by first | omega | (simp only [W1, cond_true, cond_false, hg]; first | done | omega)) ?_ | refine wT (by first | omega | (simp only [W1, cond_true, cond_false, hg]; first | done | omega)) ?_ | refine wF (by intro _h; first | omega | (simp only [W1, cond_true, cond_false, hg] at _h; first | done | omega)) ?_ | (refine wS ?_ ?_ <;> intro _h <;> simp only [W1, cond_true, cond_false, hg] at _h))
      all_goals simp only [W1, W2, owesN, owesX, owesR, cond_true, cond_false, hg]
      repeat' (first | apply And.intro | intro _hc)
      all_goals first | exact AV.le_refl _ | exact AV.le_any _ | exact OLe.refl _ | exact OLe.none _ | exact LeH.refl _ | exact LeL.refl _ | exact AV.le.bs _ | exact AV.le.sb _ | omega | contradiction
noncomputable def kValR : CT Tryd.prog Γm := CT.oS 23 Tryd.func23 (by kernel_rfl) (by kernel_rfl) (fun s => s.size ≤ 100000000) (fun s => .sb (valueB s)) (fun _ => []) (fun s h => ansValR h)
end Go.Eng.TA

namespace Go.Eng.TA
open Go Go.Eng Go.Eng.M Go.Lib Go.Proofs
structure Tx where
  k : Int
  fr : ByteArray
  to : ByteArray
  ky : ByteArray
  vl : ByteArray
  am : Int
  nn : Int
instance : Inhabited Tx := ⟨⟨0, ⟨#[]⟩, ⟨#[]⟩, ⟨#[]⟩, ⟨#[]⟩, 0, 0⟩⟩
def Tx.c (x : Tx) : List AV := [.v (.int .i64 x.k), .v (.string x.fr), .v (.string x.to), .v (.string x.ky), .v (.string x.vl), .v (.int .i64 x.am), .v (.int .i64 x.nn)]
def Tx.cells (x : Tx) : List Value := [.int .i64 x.k, .string x.fr, .string x.to, .string x.ky, .string x.vl, .int .i64 x.am, .int .i64 x.nn]
theorem Tx.cod : Cod Tx.c 7 := ⟨fun _ => rfl, fun b x y => by cases b <;> rfl⟩
theorem Tx.dec (vs : List Value) (h0 : GoodVs [.int .i64, .str, .str, .str, .str, .int .i64, .int .i64] vs) : ∃ a : Tx, vs = a.cells := by
  obtain ⟨_, _, rfl, ⟨a0, rfl, _⟩, h1⟩ := h0.cons
  obtain ⟨_, _, rfl, ⟨a1, rfl, _⟩, h2⟩ := h1.cons
  obtain ⟨_, _, rfl, ⟨a2, rfl, _⟩, h3⟩ := h2.cons
  obtain ⟨_, _, rfl, ⟨a3, rfl, _⟩, h4⟩ := h3.cons
  obtain ⟨_, _, rfl, ⟨a4, rfl, _⟩, h5⟩ := h4.cons
  obtain ⟨_, _, rfl, ⟨a5, rfl, _⟩, h6⟩ := h5.cons
  obtain ⟨_, _, rfl, ⟨a6, rfl, _⟩, h7⟩ := h6.cons
  obtain rfl := h7.nil
  exact ⟨⟨a0, a1, a2, a3, a4, a5, a6⟩, rfl⟩
abbrev Tx.ks : List Cel := [.int .i64, .str, .str, .str, .str, .int .i64, .int .i64]
def txV (x : Tx) : AV := .agg x.c
def big : Int := 4611686018427387904
def emp (s : ByteArray) : Bool := decide (s = ⟨#[]⟩)
def okM (x : Tx) : Bool := nameB x.to && ((decide (1 ≤ x.am) && decide (x.am ≤ 4611686018427387904)) && (emp x.ky && emp x.vl))
def okP (x : Tx) : Bool := nameB x.ky && (valueB x.vl && (emp x.to && decide (x.am = 0)))
def txB (x : Tx) : Bool := (nameB x.fr && (decide (1 ≤ x.nn) && decide (x.nn ≤ 4611686018427387904))) && (if x.k = 1 then okM x else if x.k = 2 then okP x else false)
def smallT (x : Tx) : Prop := x.fr.size ≤ 10000000 ∧ x.to.size ≤ 10000000 ∧ x.ky.size ≤ 10000000 ∧ x.vl.size ≤ 10000000
def ofTx : List AV → List Blk → Option Tx
  | [.agg [.v (.int _ k), .v (.string f), .v (.string t), .v (.string y), .v (.string v), .v (.int _ a), .v (.int _ n)]], [] => some ⟨k, f, t, y, v, a, n⟩
  | _, _ => none
noncomputable def CT.oTx (f : FuncId) {fn : Func} (hf : Tryd.prog.funcs[f]? = some fn) (hb : fn.body.isSome = true) (hn : (fn.name == "runtime.NumGoroutine") = false) (pre : Tx → Prop) (g : Tx → AV) (h : ∀ x, pre x → Answers Tryd.prog Γm f [txV x] [] (g x) [] []) : CT Tryd.prog Γm :=
  CT.par f ofTx pre (fun x => [txV x]) (fun _ => []) g (fun _ => []) (fun _ => []) (callFunc_enters hf hb hn) h
noncomputable def kWi : CT Tryd.prog Γm := CT.auto false 3 3 [] 85 Tryd.f85 (bodyOf Tryd.f85) false 15 [.tmp 6] Tryd.func85 (by kernel_rfl) (by kernel_rfl) (by kernel_rfl) (by kernel_rfl)
theorem runTx (x : Tx) : bodyE (P := Tryd.prog) (Γ := Γm) [kChk, kVal, kWi] Lno false 66 [.tmp 2] (bodyOf Tryd.f32) [txV x] [] =
  Tree.chk (cl (ByteArray.size x.fr ≤ (1000000000 : Nat) ∧ LeL [.v (.string x.fr)] [.v (.string x.fr)] ∧ LeH [] [])) (.br (decide (x.k = (1 : Int))) (.chk (bif bif decide (erN (nameB x.fr) =  
    (0 : Int)) then bif decide ((1 : Int) ≤ x.nn) then decide (x.nn ≤ (4611686018427387904 : Int)) else false else false then cl (ByteArray.size x.to ≤ (1000000000 : Nat) ∧ LeL [.v  
    (.string x.to)] [.v (.string x.to)] ∧ LeH [] []) else true) (.br (!bif bif decide (erN (nameB x.fr) = (0 : Int)) then bif decide ((1 : Int) ≤ x.nn) then decide (x.nn ≤  
    (4611686018427387904 : Int)) else false else false then bif decide (erN (nameB x.to) = (0 : Int)) then bif bif decide ((1 : Int) ≤ x.am) then decide (x.am ≤ (4611686018427387904 :  
    Int)) else false then bif decide (x.ky = ByteArray.mk #[]) then decide (x.vl = ByteArray.mk #[]) else false else false else false else false) (.leaf (Ans.mk (.v (.int .i64 (80 :  
    Int))) [])) (.leaf (Ans.mk (.v (.int .i64 (0 : Int))) [])))) (.br (decide (x.k = (2 : Int))) (.chk (bif bif decide (erN (nameB x.fr) = (0 : Int)) then bif decide ((1 : Int) ≤ x.nn) 
     then decide (x.nn ≤ (4611686018427387904 : Int)) else false else false then cl (ByteArray.size x.ky ≤ (1000000000 : Nat) ∧ LeL [.v (.string x.ky)] [.v (.string x.ky)] ∧ LeH [] []) 
     && bif decide (erN (nameB x.ky) = (0 : Int)) then cl (ByteArray.size x.vl ≤ (1000000000 : Nat) ∧ LeL [.v (.string x.vl)] [.v (.string x.vl)] ∧ LeH [] []) else true else true) (.br 
     (!bif bif decide (erN (nameB x.fr) = (0 : Int)) then bif decide ((1 : Int) ≤ x.nn) then decide (x.nn ≤ (4611686018427387904 : Int)) else false else false then bif decide (erN  
    (nameB x.ky) = (0 : Int)) then bif decide (erN (valueB x.vl) = (0 : Int)) then bif decide (x.to = ByteArray.mk #[]) then decide (x.am = (0 : Int)) else false else false else false  
    else false) (.leaf (Ans.mk (.v (.int .i64 (80 : Int))) [])) (.leaf (Ans.mk (.v (.int .i64 (0 : Int))) [])))) (.leaf (Ans.mk (.v (.int .i64 (80 : Int))) [])))) := by kernel_rfl
theorem runTxR (x : Tx) : bodyE (P := Tryd.prog) (Γ := Γm) [kChkR, kValR] Lno false 66 [.tmp 2] (bodyOf Tryd.f33) [txV x] [] =
  Tree.chk (bif decide (x.nn < (1 : Int)) then true else bif decide ((4611686018427387904 : Int) < x.nn) then true else cl (ByteArray.size x.fr ≤ (100000000 : Nat) ∧ LeL [.v (.string x.fr)]  
    [.v (.string x.fr)] ∧ LeH [] [])) (.br (bif decide (x.nn < (1 : Int)) then true else bif decide ((4611686018427387904 : Int) < x.nn) then true else !nameB x.fr) (.leaf (Ans.mk (.v  
    (.bool false)) [])) (.br (decide (x.k = (1 : Int))) (.chk (cl (ByteArray.size x.to ≤ (100000000 : Nat) ∧ LeL [.v (.string x.to)] [.v (.string x.to)] ∧ LeH [] [])) (.leaf (Ans.mk  
    (.sb (bif nameB x.to then bif decide ((1 : Int) ≤ x.am) then bif decide (x.am ≤ (4611686018427387904 : Int)) then bif decide (x.ky = ByteArray.mk #[]) then decide (x.vl =  
    ByteArray.mk #[]) else false else false else false else false)) []))) (.chk (bif decide (x.k = (2 : Int)) then cl (ByteArray.size x.ky ≤ (100000000 : Nat) ∧ LeL [.v (.string x.ky)] 
     [.v (.string x.ky)] ∧ LeH [] []) && bif nameB x.ky then cl (ByteArray.size x.vl ≤ (100000000 : Nat) ∧ LeL [.v (.string x.vl)] [.v (.string x.vl)] ∧ LeH [] []) else true else true) 
     (.leaf (Ans.mk (.sb (bif decide (x.k = (2 : Int)) then bif nameB x.ky then bif valueB x.vl then bif decide (x.to = ByteArray.mk #[]) then decide (x.am = (0 : Int)) else false else 
     false else false else false)) []))))) := by kernel_rfl
theorem runGr (x : Tx) : bodyE (P := Tryd.prog) (Γ := Γm) [] Lno false 25 [.tmp 2] (bodyOf Tryd.f29) [txV x] [] =
  Tree.leaf (Ans.mk (.sb (bif decide ((1000 : Int) < (↑(ByteArray.size x.fr) : Int)) then true else bif decide ((1000 : Int) < (↑(ByteArray.size x.to) : Int)) then true else bif decide ((1000  
    : Int) < (↑(ByteArray.size x.ky) : Int)) then true else decide ((1000 : Int) < (↑(ByteArray.size x.vl) : Int)))) []) := by kernel_rfl
theorem clS {s : ByteArray} {n : Nat} (h : s.size ≤ n) : cl (s.size ≤ n ∧ LeL [AV.v (.string s)] [AV.v (.string s)] ∧ LeH [] []) = true := cl_iff.2 ⟨h, LeL.refl _, trivial⟩
theorem erN0 (b : Bool) : decide (erN b = 0) = b := by cases b <;> rfl
theorem condSelf (b c : Bool) : (bif b then c else c) = c := by cases b <;> rfl
theorem condB (b c : Bool) : (bif b then c else false) = (b && c) := by cases b <;> rfl
theorem empE (s : ByteArray) : decide (s = ByteArray.mk #[]) = emp s := rfl
def erT (b : Bool) : Int := bif b then 0 else 80
theorem ansTx {x : Tx} (h : smallT x) : Answers Tryd.prog Γm 32 [txV x] [] (.v (.int .i64 (erT (txB x)))) [] [] :=
  answers (fn := Tryd.f32) (c := bodyOf Tryd.f32) (ntmps := 66) (results := [.tmp 2]) [kChk, kVal, kWi] Lno false Tryd.func32 (by kernel_rfl) (by kernel_rfl) (by kernel_rfl) (by kernel_rfl) (by simp) rfl (noLoops (by kernel_rfl)) <| Meets.of (runTx x) <| by
    obtain ⟨s1, s2, s3, s4⟩ := h
    simp (disch := omega) only [clS, erN0, condSelf, condB, empE, Bool.and_true]
    by_cases k1 : x.k = 1
    · have hB : txB x = ((nameB x.fr && (decide (1 ≤ x.nn) && decide (x.nn ≤ 4611686018427387904))) && (nameB x.to && ((decide (1 ≤ x.am) && decide (x.am ≤ 4611686018427387904)) && (emp x.ky && emp x.vl)))) := by
        unfold txB; rw [if_pos k1]; rfl
      rw [← hB]
      cases txB x with
      | true =>
        repeat' (first | refine wC (by first | omega | (simp only [W1, cond_true, cond_false, k1]; first | done | omega)) ?_ | refine wT (by first | omega | (simp only [W1, cond_true, cond_false, k1]; first | done | omega)) ?_ | refine wF (by intro _h; first | omega | (simp only [W1, cond_true, cond_false, k1] at _h; first | done | omega)) ?_ | (refine wS ?_ ?_ <;> intro _h <;> simp only [W1, cond_true, cond_false, k1] at _h))
        all_goals simp only [W1, W2, owesN, owesX, owesR, cond_true, cond_false, k1]
        repeat' (first | apply And.intro | intro _hc)
        all_goals first | exact leI rfl | exact AV.le_refl _ | exact AV.le_any _ | exact OLe.refl _ | exact OLe.none _ | exact LeH.refl _ | exact LeL.refl _ | exact AV.le.bs _ | exact AV.le.sb _ | omega | contradiction
      | false =>
        repeat' (first | refine wC (by first | omega | (simp only [W1, cond_true, cond_false, k1]; first | done | omega)) ?_ | refine wT (by first | omega | (simp only [W1, cond_true, cond_false, k1]; first | done | omega)) ?_ | refine wF (by intro _h; first | omega | (simp only [W1, cond_true, cond_false, k1] at _h; first | done | omega)) ?_ | (refine wS ?_ ?_ <;> intro _h <;> simp only [W1, cond_true, cond_false, k1] at _h))
        all_goals simp only [W1, W2, owesN, owesX, owesR, cond_true, cond_false, k1]
        repeat' (first | apply And.intro | intro _hc)
        all_goals first | exact leI rfl | exact AV.le_refl _ | exact AV.le_any _ | exact OLe.refl _ | exact OLe.none _ | exact LeH.refl _ | exact LeL.refl _ | exact AV.le.bs _ | exact AV.le.sb _ | omega | contradiction
    by_cases k2 : x.k = 2
    · have hB : txB x = ((nameB x.fr && (decide (1 ≤ x.nn) && decide (x.nn ≤ 4611686018427387904))) && (nameB x.ky && (valueB x.vl && (emp x.to && decide (x.am = 0))))) := by
        unfold txB; rw [if_neg k1, if_pos k2]; rfl
      rw [← hB]
      cases txB x with
      | true =>
        repeat' (first | refine wC (by first | omega | (simp only [W1, cond_true, cond_false, k1]; first | done | omega)) ?_ | refine wT (by first | omega | (simp only [W1, cond_true, cond_false, k1]; first | done | omega)) ?_ | refine wF (by intro _h; first | omega | (simp only [W1, cond_true, cond_false, k1] at _h; first | done | omega)) ?_ | (refine wS ?_ ?_ <;> intro _h <;> simp only [W1, cond_true, cond_false, k1] at _h))
        all_goals simp only [W1, W2, owesN, owesX, owesR, cond_true, cond_false, k1]
        repeat' (first | apply And.intro | intro _hc)
        all_goals first | exact leI rfl | exact AV.le_refl _ | exact AV.le_any _ | exact OLe.refl _ | exact OLe.none _ | exact LeH.refl _ | exact LeL.refl _ | exact AV.le.bs _ | exact AV.le.sb _ | omega | contradiction
      | false =>
        repeat' (first | refine wC (by first | omega | (simp only [W1, cond_true, cond_false, k1]; first | done | omega)) ?_ | refine wT (by first | omega | (simp only [W1, cond_true, cond_false, k1]; first | done | omega)) ?_ | refine wF (by intro _h; first | omega | (simp only [W1, cond_true, cond_false, k1] at _h; first | done | omega)) ?_ | (refine wS ?_ ?_ <;> intro _h <;> simp only [W1, cond_true, cond_false, k1] at _h))
        all_goals simp only [W1, W2, owesN, owesX, owesR, cond_true, cond_false, k1]
        repeat' (first | apply And.intro | intro _hc)
        all_goals first | exact leI rfl | exact AV.le_refl _ | exact AV.le_any _ | exact OLe.refl _ | exact OLe.none _ | exact LeH.refl _ | exact LeL.refl _ | exact AV.le.bs _ | exact AV.le.sb _ | omega | contradiction
    · have hB : txB x = false := by
        unfold txB; rw [if_neg k1, if_neg k2, Bool.and_false]
      rw [hB]
      repeat' (first | refine wC (by first | omega | (simp only [W1, cond_true, cond_false, k1]; first | done | omega)) ?_ | refine wT (by first | omega | (simp only [W1, cond_true, cond_false, k1]; first | done | omega)) ?_ | refine wF (by intro _h; first | omega | (simp only [W1, cond_true, cond_false, k1] at _h; first | done | omega)) ?_ | (refine wS ?_ ?_ <;> intro _h <;> simp only [W1, cond_true, cond_false, k1] at _h))
      all_goals simp only [W1, W2, owesN, owesX, owesR, cond_true, cond_false, k1]
      repeat' (first | apply And.intro | intro _hc)
      all_goals first | exact leI rfl | exact AV.le_refl _ | exact AV.le_any _ | exact OLe.refl _ | exact OLe.none _ | exact LeH.refl _ | exact LeL.refl _ | exact AV.le.bs _ | exact AV.le.sb _ | omega | contradiction
noncomputable def kTx : CT Tryd.prog Γm := CT.oTx 32 Tryd.func32 (by kernel_rfl) (by kernel_rfl) smallT (fun x => .v (.int .i64 (erT (txB x)))) (fun x h => ansTx h)
theorem ansTxR {x : Tx} (h : smallT x) : Answers Tryd.prog Γm 33 [txV x] [] (.sb (txB x)) [] [] :=
  answers (fn := Tryd.f33) (c := bodyOf Tryd.f33) (ntmps := 66) (results := [.tmp 2]) [kChkR, kValR] Lno false Tryd.func33 (by kernel_rfl) (by kernel_rfl) (by kernel_rfl) (by kernel_rfl) (by simp) rfl (noLoops (by kernel_rfl)) <| Meets.of (runTxR x) <| by
    obtain ⟨s1, s2, s3, s4⟩ := h
    simp (disch := omega) only [clS, condSelf, condB, empE, Bool.and_true]
    by_cases hn : (nameB x.fr && (decide (1 ≤ x.nn) && decide (x.nn ≤ 4611686018427387904))) = true
    · have hB : txB x = (if x.k = 1 then okM x else if x.k = 2 then okP x else false) := by
        unfold txB; rw [hn, Bool.true_and]
      simp only [Bool.and_eq_true, decide_eq_true_eq] at hn
      obtain ⟨n1, n2, n3⟩ := hn
      rw [hB]
      by_cases k1 : x.k = 1
      · rw [if_pos k1]
        repeat' (first | refine wC (by first | omega | (simp only [W1, cond_true, cond_false, n1, k1]; first | done | omega)) ?_ | refine wT (by first | omega | (simp only [W1, cond_true, cond_false, n1, k1]; first | done | omega)) ?_ | refine wF (by intro _h; first | omega | (simp only [W1, cond_true, cond_false, n1, k1] at _h; first | done | omega)) ?_ | (refine wS ?_ ?_ <;> intro _h <;> simp only [W1, cond_true, cond_false, n1, k1] at _h))
        all_goals simp only [W1, W2, owesN, owesX, owesR, cond_true, cond_false, n1, k1]
        repeat' (first | apply And.intro | intro _hc)
        all_goals first | exact leB' (by unfold okM; simp only [Bool.and_assoc]) | exact AV.le_refl _ | exact AV.le_any _ | exact OLe.refl _ | exact OLe.none _ | exact LeH.refl _ | exact LeL.refl _ | exact AV.le.bs _ | exact AV.le.sb _ | omega | contradiction
      · rw [if_neg k1]
        by_cases k2 : x.k = 2
        · rw [if_pos k2]
          have q : decide ((2 : Int) = 2) = true := rfl
          have q1 : ¬ ((2 : Int) = 1) := by decide
          repeat' (first | refine wC (by first | omega | (simp only [W1, cond_true, cond_false, n1, k2, q, q1, decide_true]; first | done | omega)) ?_ | refine wT (by first | omega | (simp only [W1, cond_true, cond_false, n1, k2, q, q1, decide_true]; first | done | omega)) ?_ | refine wF (by intro _h; first | omega | (simp only [W1, cond_true, cond_false, n1, k2, q, q1, decide_true] at _h; first | done | omega)) ?_ | (refine wS ?_ ?_ <;> intro _h <;> simp only [W1, cond_true, cond_false, n1, k2, q, q1, decide_true] at _h))
          all_goals simp only [W1, W2, owesN, owesX, owesR, cond_true, cond_false, n1, k2, q, q1, decide_true]
          repeat' (first | apply And.intro | intro _hc)
          all_goals first | exact leB' rfl | exact AV.le_refl _ | exact AV.le_any _ | exact OLe.refl _ | exact OLe.none _ | exact LeH.refl _ | exact LeL.refl _ | exact AV.le.bs _ | exact AV.le.sb _ | omega | contradiction
        · rw [if_neg k2]
          have q : decide (x.k = 2) = false := decide_eq_false k2
          repeat' (first | refine wC (by first | omega | (simp only [W1, cond_true, cond_false, n1, k1, q]; first | done | omega)) ?_ | refine wT (by first | omega | (simp only [W1, cond_true, cond_false, n1, k1, q]; first | done | omega)) ?_ | refine wF (by intro _h; first | omega | (simp only [W1, cond_true, cond_false, n1, k1, q] at _h; first | done | omega)) ?_ | (refine wS ?_ ?_ <;> intro _h <;> simp only [W1, cond_true, cond_false, n1, k1, q] at _h))
          all_goals simp only [W1, W2, owesN, owesX, owesR, cond_true, cond_false, n1, k1, q]
          repeat' (first | apply And.intro | intro _hc)
          all_goals first | exact leB' rfl | exact AV.le_refl _ | exact AV.le_any _ | exact OLe.refl _ | exact OLe.none _ | exact LeH.refl _ | exact LeL.refl _ | exact AV.le.bs _ | exact AV.le.sb _ | omega | contradiction
    · have hn : (nameB x.fr && (decide (1 ≤ x.nn) && decide (x.nn ≤ 4611686018427387904))) = false := by simpa using hn
      have hB : txB x = false := by unfold txB; rw [hn, Bool.false_and]
      rw [hB]
      cases h1 : nameB x.fr with
      | true =>
        rw [h1, Bool.true_and] at hn
        have hn : ¬ (1 ≤ x.nn ∧ x.nn ≤ 4611686018427387904) := fun h => by rw [decide_eq_true h.1, decide_eq_true h.2] at hn; cases hn
        repeat' (first | refine wC (by first | omega | (simp only [W1, cond_true, cond_false, h1]; first | done | omega)) ?_ | refine wT (by first | omega | (simp only [W1, cond_true, cond_false, h1]; first | done | omega)) ?_ | refine wF (by intro _h; first | omega | (simp only [W1, cond_true, cond_false, h1] at _h; first | done | omega)) ?_ | (refine wS ?_ ?_ <;> intro _h <;> simp only [W1, cond_true, cond_false, h1] at _h))
        all_goals simp only [W1, W2, owesN, owesX, owesR, cond_true, cond_false, h1]
        repeat' (first | apply And.intro | intro _hc)
        all_goals first | exact leB rfl | exact AV.le_refl _ | exact AV.le_any _ | exact OLe.refl _ | exact OLe.none _ | exact LeH.refl _ | exact LeL.refl _ | exact AV.le.bs _ | exact AV.le.sb _ | omega | contradiction
      | false =>
        repeat' (first | refine wC (by first | omega | (simp only [W1, cond_true, cond_false, h1]; first | done | omega)) ?_ | refine wT (by first | omega | (simp only [W1, cond_true, cond_false, h1]; first | done | omega)) ?_ | refine wF (by intro _h; first | omega | (simp only [W1, cond_true, cond_false, h1] at _h; first | done | omega)) ?_ | (refine wS ?_ ?_ <;> intro _h <;> simp only [W1, cond_true, cond_false, h1] at _h))
        all_goals simp only [W1, W2, owesN, owesX, owesR, cond_true, cond_false, h1]
        repeat' (first | apply And.intro | intro _hc)
        all_goals first | exact leB rfl | exact AV.le_refl _ | exact AV.le_any _ | exact OLe.refl _ | exact OLe.none _ | exact LeH.refl _ | exact LeL.refl _ | exact AV.le.bs _ | exact AV.le.sb _ | omega | contradiction
noncomputable def kTxR : CT Tryd.prog Γm := CT.oTx 33 Tryd.func33 (by kernel_rfl) (by kernel_rfl) smallT (fun x => .sb (txB x)) (fun x h => ansTxR h)
def grT (x : Tx) : Bool := decide (1000 < x.fr.size ∨ 1000 < x.to.size ∨ 1000 < x.ky.size ∨ 1000 < x.vl.size)
theorem ansGr {x : Tx} : Answers Tryd.prog Γm 29 [txV x] [] (.sb (grT x)) [] [] :=
  answers (fn := Tryd.f29) (c := bodyOf Tryd.f29) (ntmps := 25) (results := [.tmp 2]) [] Lno false Tryd.func29 (by kernel_rfl) (by kernel_rfl) (by kernel_rfl) (by kernel_rfl) (by simp) rfl (noLoops (by kernel_rfl)) <| Meets.of (runGr x) <| by
    have e : grT x = (bif decide ((1000 : Int) < (x.fr.size : Int)) then true else bif decide ((1000 : Int) < (x.to.size : Int)) then true else bif decide ((1000 : Int) < (x.ky.size : Int)) then true else decide ((1000 : Int) < (x.vl.size : Int))) := by
      unfold grT
      simp only [Bool.cond_true_left]
      rw [Bool.eq_iff_iff]
      simp only [decide_eq_true_eq, Bool.or_eq_true]
      omega
    exact ⟨leB' e.symm, trivial⟩
noncomputable def kGr : CT Tryd.prog Γm := CT.oTx 29 Tryd.func29 (by kernel_rfl) (by kernel_rfl) (fun _ => True) (fun x => .sb (grT x)) (fun x _ => ansGr)
end Go.Eng.TA

namespace Go.Eng
open Go Go.ChangeShapes
section
variable {H : Type} {enc : TypeId × Value → H} {P : Program} {w : World} {base : Nat} {sp : Nat → Bool} {held : Bool}
theorem trod_sl {α : Type} [Inhabited α] (c : α → List AV) {sz : Nat} (E : α → List Value → Prop) {e : TypeId} (hz : 0 < sz) (hc : P.cellsOf e = sz) (hm : mkd (c default) = false) (hcl : ∀ a, (c a).length = sz)
    (hE : ∀ fuel cs x, DataW.trod enc P w base sp held fuel e cs = some x → ∃ a, E a cs)
    (hV : ∀ a cs, E a cs → ∀ (j : Nat) (x : AV) (y : Value), (c a)[j]? = some x → cs[j]? = some y → V0 (σof w) x y ∧ y.oneCell' = true)
    {t : TypeId} {fuel : Nat} {cs : List Value} {x : DataW H × List MemPlace} (ht : P.underlying t = some (.slice e)) (h : DataW.trod enc P w base sp held fuel t cs = some x) :
    ∃ (v : Value) (l : List α), cs = [v] ∧ V0 (σof w) (.sl sz l.length (lsF c l)) v ∧ v.oneCell' = true ∧ ∀ i, i < l.length → ∃ vs, E (l.getD i default) vs := by
  have hd : ∀ e, (lsF c ([] : List α) e).length = sz := fun e => hcl _
  rcases DataW.trod_slice ht h with ⟨rfl, _⟩ | ⟨a, len, cap, elems, rest, n, _, rfl, _, hb, hl, hmx, hlen, hel, _, _⟩
  · exact ⟨_, [], rfl, .slnil sz 0 _ none 0 hd rfl (fun _ => hm), rfl, fun i hi => absurd hi (Nat.not_lt_zero _)⟩
  by_cases h0 : len = 0
  · subst h0
    exact ⟨_, [], rfl, .slnil sz 0 _ (some a) cap hd rfl (fun e => by cases e), rfl, fun i hi => absurd hi (Nat.not_lt_zero _)⟩
  have got : ∀ i, i < len → ∃ cs, w.cells? base (a.add (i * P.cellsOf e)) (P.cellsOf e) = some cs ∧ ∃ x, DataW.trod enc P w base sp held n e cs = some x := by
    intro i hi
    have h2 := hel i hi
    rw [List.getElem?_eq_getElem (by omega), Option.bind_eq_some_iff] at h2
    obtain ⟨cs, h3, h4⟩ := h2
    exact ⟨cs, h3, _, h4⟩
  have hsp : a.spot = none := by
    obtain ⟨cs, h3, _⟩ := got 0 (by omega)
    obtain ⟨_, h4, h5⟩ := World.cells?_some h3
    have h6 := h5 0 (by omega)
    rw [Nat.zero_mul] at h6
    have e1 : (a.add 0).add 0 = a := by unfold Addr.add; simp
    rw [e1, List.getElem?_eq_getElem (by omega)] at h6
    unfold World.cell? at h6
    split at h6
    · split at h6
      · cases h6
      · rename_i hs
        cases hsx : a.spot with
        | none => rfl
        | some _ => rw [hsx] at hs; simp at hs
    · cases h6
  have each : ∀ i, i < len → ∃ u : α, ∃ vs, E u vs ∧ vs.length = sz ∧ ∀ (j : Nat) (y : Value), vs[j]? = some y → σof w a.block (a.off + i * sz + j) = some y := by
    intro i hi
    obtain ⟨cs, h3, x, h4⟩ := got i hi
    obtain ⟨u, hu⟩ := hE n cs x h4
    obtain ⟨_, k1, k2⟩ := World.cells?_some h3
    refine ⟨u, cs, hu, by rw [k1, hc], fun j y hj => ?_⟩
    have hjl : j < sz := by have := (List.getElem?_eq_some_iff.1 hj).1; rw [k1, hc] at this; exact this
    have h5 := k2 j (by rw [hc]; exact hjl)
    rw [hj] at h5
    have e2 : (a.add (i * P.cellsOf e)).add j = ⟨a.block, a.off + i * sz + j, none⟩ := by
      rw [hc]
      unfold Addr.add
      obtain ⟨ab, ao, asp⟩ := a
      simp only at hsp
      subst hsp
      by_cases h0 : i * sz = 0
      · by_cases h1 : j = 0
        · simp [h0, h1]
        · simp [h0, h1]
      · by_cases h1 : j = 0
        · simp [h0, h1]
        · simp [h0, h1]
    rw [e2] at h5
    exact σof_of h5
  let g : Nat → α := fun i => if h : i < len then (each i h).choose else default
  have hg : ∀ i, i < len → ((List.range len).map g).getD i default = g i := fun i hi => by
    rw [List.getD_eq_getElem?_getD, List.getElem?_map, List.getElem?_range hi]; rfl
  have spec : ∀ i (hi : i < len), ∃ vs, E (g i) vs ∧ vs.length = sz ∧ ∀ (j : Nat) (y : Value), vs[j]? = some y → σof w a.block (a.off + i * sz + j) = some y := fun i hi => by
    show ∃ vs, E (if h : i < len then (each i h).choose else default) vs ∧ _
    rw [dif_pos hi]
    exact (each i hi).choose_spec
  refine ⟨_, (List.range len).map g, rfl, ?_, rfl, fun i hi => ?_⟩
  · have hln : ((List.range len).map g).length = len := by simp
    rw [hln]
    have at' : ∀ (e j : Nat) (x : AV), e < len → (lsF c ((List.range len).map g) e)[j]? = some x → ∃ y, σof w a.block (a.off + e * sz + j) = some y ∧ V0 (σof w) x y ∧ y.oneCell' = true := by
      intro e j x he hj
      rw [lsF_at, hg e he] at hj
      obtain ⟨vs, k1, k2, k3⟩ := spec e he
      have hjl : j < sz := by have := (List.getElem?_eq_some_iff.1 hj).1; rw [hcl] at this; exact this
      have hy : vs[j]? = some vs[j] := List.getElem?_eq_getElem (by omega)
      obtain ⟨k4, k5⟩ := hV _ _ k1 j x _ hj hy
      exact ⟨_, k3 j _ hy, k4, k5⟩
    have hval : ∀ (e j : Nat) (x : AV) (he : e < len) (hj : (lsF c ((List.range len).map g) e)[j]? = some x), σof w a.block (a.off + e * sz + j) = some ((σof w a.block (a.off + e * sz + j)).getD (.bool false)) ∧ V0 (σof w) x ((σof w a.block (a.off + e * sz + j)).getD (.bool false)) ∧ ((σof w a.block (a.off + e * sz + j)).getD (.bool false)).oneCell' = true := by
      intro e j x he hj
      obtain ⟨y, h1, h2, h3⟩ := at' e j x he hj
      rw [h1]
      exact ⟨rfl, h2, h3⟩
    exact .sl sz len _ a cap (fun e j => (σof w a.block (a.off + e * sz + j)).getD (.bool false)) hsp hl (fun i => hcl _) (fun e j x he hj => (hval e j x he hj).1) (fun e j x he hj => (hval e j x he hj).2.2) (fun e j x he hj => (hval e j x he hj).2.1)
  · have hi' : i < len := by simpa using hi
    rw [hg i hi']
    obtain ⟨vs, k1, _⟩ := spec i hi'
    exact ⟨vs, k1⟩
theorem flatE_V {α : Type} {cells : α → List Value} {c : α → List AV} {ks : List Cel} (hc0 : ∀ a, (cells a).map AV.v = c a) {σ : Store} (a : α) (cs : List Value) (h : cs = cells a ∧ GoodVs ks cs) (j : Nat) (x : AV) (y : Value) (hx : (c a)[j]? = some x) (hy : cs[j]? = some y) : V0 σ x y ∧ y.oneCell' = true := by
  obtain ⟨rfl, hg⟩ := h
  rw [← hc0, List.getElem?_map, hy] at hx
  simp only [Option.map_some, Option.some.injEq] at hx
  subst hx
  obtain ⟨k, hk⟩ := hg.at j y hy
  exact ⟨.v _, goodV_one hk⟩
theorem trod_three {fuel : Nat} {t : TypeId} {fs : Array Field} {f0 f1 f2 : Field} {cs : List Value} {x : DataW H × List MemPlace} {n0 n1 n2 : Nat} (hu : P.underlying t = some (.struct fs)) (hfs : fs.toList = [f0, f1, f2])
    (h0 : f0.offset = 0) (h1 : f1.offset = n0) (h2 : f2.offset = n0 + n1) (s0 : P.cellsOf f0.type = n0) (s1 : P.cellsOf f1.type = n1) (s2 : P.cellsOf f2.type = n2) (st : P.cellsOf t = n0 + n1 + n2)
    (h : DataW.trod enc P w base sp held fuel t cs = some x) :
    ∃ p0 p1 p2 fu y0 y1 y2, cs = p0 ++ p1 ++ p2 ∧ DataW.trod enc P w base sp held fu f0.type p0 = some y0 ∧ DataW.trod enc P w base sp held fu f1.type p1 = some y1 ∧ DataW.trod enc P w base sp held fu f2.type p2 = some y2 := by
  cases fuel with
  | zero => simp [DataW.trod] at h
  | succ fu =>
    obtain ⟨hl, r, hr⟩ := trod_struct hu h
    rw [hfs] at hr
    obtain ⟨y0, r0, k0, hr, _⟩ := mapM_head hr
    obtain ⟨y1, r1, k1, hr, _⟩ := mapM_head hr
    obtain ⟨y2, r2, k2, hr, _⟩ := mapM_head hr
    rw [h0, s0, List.drop_zero] at k0
    rw [h1, s1] at k1
    rw [h2, s2] at k2
    refine ⟨_, _, _, fu, y0, y1, y2, ?_, k0, k1, k2⟩
    rw [List.append_assoc, ← List.drop_drop]
    have e2 : List.take n2 (List.drop n1 (List.drop n0 cs)) = List.drop n1 (List.drop n0 cs) := List.take_of_length_le (by simp; omega)
    rw [e2, List.take_append_drop, List.take_append_drop]
end
end Go.Eng

namespace Go.Eng
open Go
section
variable {α : Type} [Inhabited α] {c : α → List AV} {sz : Nat}
theorem getD_setI {L : List α} {i j : Nat} {t : α} (hi : i < L.length) : (L.set i t).getD j default = if j = i then t else L.getD j default := by
  rw [List.getD_eq_getElem?_getD, List.getElem?_set]
  by_cases h : i = j
  · subst h; simp [hi]
  · have h' : ¬ j = i := fun e => h e.symm
    rw [if_neg h, if_neg h', List.getD_eq_getElem?_getD]
theorem Cod.set (h : Cod c sz) (L : List α) {i N : Nat} (t : α) (hi : i < L.length) (hN : N = L.length) :
    OLe (some (.arr sz N fun k => mixL (Nat.beq k i) (c t) (lsF c L k))) (some (.arr sz (L.set i t).length (lsF c (L.set i t)))) := by
  refine h.row (by simp [hN]) fun e he => ?_
  simp only [lsF_at, h.mix]
  refine congrArg c ?_
  rw [getD_setI hi]
  by_cases hk : e = i
  · subst hk; simp
  · have : Nat.beq e i = false := by
      cases hb : Nat.beq e i with
      | false => rfl
      | true => exact absurd (Nat.eq_of_beq_eq_true hb) hk
    rw [this, if_neg hk]; rfl
theorem Cod.clr (h : Cod c sz) (L : List α) (z : α) {i n N m : Nat} (hN : N = L.length) (hn : n ≤ L.length) (hi : i ≤ n) (hm : m = n - i) :
    OLe (some (.arr sz N fun k => mixL (decide (i ≤ k) && decide (k < i + m)) (c z) (lsF c L k))) (some (.arr sz (L.take i ++ (List.replicate (n - i) z ++ L.drop n)).length (lsF c (L.take i ++ (List.replicate (n - i) z ++ L.drop n))))) := by
  refine h.row (by simp [hN]; omega) fun e he => ?_
  simp only [lsF_at, h.mix]
  refine congrArg c ?_
  have hti : (L.take i).length = i := by simp; omega
  rw [cond_eq_ite]
  simp only [Bool.and_eq_true, decide_eq_true_eq]
  by_cases h1 : e < i
  · rw [if_neg (by omega), getD_app (by omega), List.getD_eq_getElem?_getD, List.getD_eq_getElem?_getD, List.getElem?_take, if_pos h1]
  · rw [getD_app' (by omega), hti]
    by_cases h2 : e < n
    · rw [if_pos (by omega), getD_app (by simp; omega), List.getD_eq_getElem?_getD, List.getElem?_replicate, if_pos (by omega)]; rfl
    · rw [if_neg (by omega), getD_app' (by simp; omega), List.length_replicate, List.getD_eq_getElem?_getD, List.getD_eq_getElem?_getD, List.getElem?_drop]
      congr 2; omega
def fD (p : α → Bool) : List α → Nat
  | [] => 0
  | t :: l => bif p t then 0 else fD p l + 1
theorem fD_le (p : α → Bool) : ∀ l : List α, fD p l ≤ l.length
  | [] => Nat.le_refl _
  | t :: l => by
    rw [fD]
    have := fD_le p l
    cases p t <;> simp <;> omega
theorem fD_filter (p : α → Bool) : ∀ l : List α, l.take (fD p l) = (l.take (fD p l)).filter (fun t => !p t)
  | [] => rfl
  | t :: l => by
    rw [fD]
    cases h : p t with
    | true => rfl
    | false =>
      simp only [cond_false, List.take_succ_cons, List.filter_cons, h, Bool.not_false, if_true]
      rw [← fD_filter p l]
theorem fD_at (p : α → Bool) : ∀ l : List α, fD p l < l.length → p (l.getD (fD p l) default) = true
  | [], h => absurd h (Nat.not_lt_zero _)
  | t :: l, h => by
    rw [fD] at h ⊢
    cases hp : p t with
    | true => rw [cond_true]; exact hp
    | false =>
      rw [hp, cond_false, List.length_cons] at h
      rw [cond_false]
      exact fD_at p l (by omega)
def dRun (p : α → Bool) : List α → Nat → List α → Nat × List α
  | [], i, L => (i, L)
  | t :: r, i, L => bif p t then dRun p r i L else dRun p r (i + 1) (L.set i t)
theorem dRun_ok (p : α → Bool) : ∀ (r : List α) (i j : Nat) (L : List α), i ≤ j → j + r.length ≤ L.length →
    (dRun p r i L).1 = i + (r.filter fun t => !p t).length ∧ (dRun p r i L).2.length = L.length ∧ (dRun p r i L).2.take (dRun p r i L).1 = L.take i ++ r.filter (fun t => !p t) ∧ (dRun p r i L).2.drop (j + r.length) = L.drop (j + r.length)
  | [], i, j, L, h1, h2 => by simp [dRun]
  | t :: r, i, j, L, h1, h2 => by
    rw [List.length_cons] at h2 ⊢
    rw [dRun]
    cases h : p t with
    | true =>
      rw [cond_true, List.filter_cons_of_neg (by simp [h])]
      obtain ⟨k1, k2, k3, k4⟩ := dRun_ok p r i (j + 1) L (by omega) (by omega)
      refine ⟨k1, k2, k3, ?_⟩
      rw [show j + (r.length + 1) = j + 1 + r.length by omega]; exact k4
    | false =>
      rw [cond_false, List.filter_cons_of_pos (by simp [h])]
      obtain ⟨k1, k2, k3, k4⟩ := dRun_ok p r (i + 1) (j + 1) (L.set i t) (by omega) (by simp; omega)
      refine ⟨by rw [k1, List.length_cons]; omega, by rw [k2, List.length_set], ?_, ?_⟩
      · rw [k3]
        have : (L.set i t).take (i + 1) = L.take i ++ [t] := by
          rw [List.take_add_one, List.take_set_of_le (Nat.le_refl _)]
          simp [show i < L.length by omega]
        rw [this, List.append_assoc]; rfl
      · rw [show j + (r.length + 1) = j + 1 + r.length by omega, k4, List.drop_set_of_lt (by omega)]
end
end Go.Eng
