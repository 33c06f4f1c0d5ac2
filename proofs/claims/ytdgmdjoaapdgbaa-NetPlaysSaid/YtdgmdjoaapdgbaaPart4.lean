/- Lists as the contents of a row of elements and what follows it. -/
import Derived.Test.YtdgmdjoaapdgbaaPart3
/- Lists as the contents of a row of elements. -/
namespace Go.Eng
open Go
set_option linter.unusedSimpArgs false
set_option linter.unusedVariables false
set_option linter.unusedSectionVars false
/-- the cells of a list's elements -/
def lsF {α : Type} [Inhabited α] (c : α → List AV) (l : List α) : Nat → List AV := fun j => c (l.getD j default)
/-- elements of one shape -/
structure Cod {α : Type} (c : α → List AV) (sz : Nat) : Prop where
  len : ∀ x, (c x).length = sz
  mix : ∀ b x y, mixL b (c x) (c y) = c (bif b then x else y)
section
variable {α : Type} [Inhabited α] {c : α → List AV} {sz : Nat}
theorem getD_app {l r : List α} {j : Nat} (h : j < l.length) : (l ++ r).getD j default = l.getD j default := by
  rw [List.getD_eq_getElem?_getD, List.getD_eq_getElem?_getD, List.getElem?_append_left h]
theorem getD_app' {l r : List α} {j : Nat} (h : l.length ≤ j) : (l ++ r).getD j default = r.getD (j - l.length) default := by
  rw [List.getD_eq_getElem?_getD, List.getD_eq_getElem?_getD, List.getElem?_append_right h]
theorem getD_get {l : List α} {j : Nat} (h : j < l.length) : l.getD j default = l[j] := by
  rw [List.getD_eq_getElem?_getD, List.getElem?_eq_getElem h]; rfl
/-- a row that shows a list -/
theorem Cod.row (h : Cod c sz) {N : Nat} {f : Nat → List AV} {l : List α} (hN : N = l.length) (hf : ∀ e, e < N → f e = lsF c l e) : OLe (some (.arr sz N f)) (some (.arr sz l.length (lsF c l))) := by
  subst hN
  exact .some (.arr (fun e he => by rw [hf e he]; exact LeL.refl _) fun e => h.len _)
theorem Cod.mixT (h : Cod c sz) (x y : α) : mixL true (c x) (c y) = c x := h.mix true x y
theorem Cod.mixF (h : Cod c sz) (x y : α) : mixL false (c x) (c y) = c y := h.mix false x y
theorem Cod.one (h : Cod c sz) (x z : α) : chain (c z) 0 [c x] 0 = c x := h.mixT x z
/-- append of one element -/
theorem Cod.app1 (h : Cod c sz) (l junk : List α) (x z : α) {n N : Nat} (hn : n = l.length) (hN : N = l.length + 1) :
    OLe (some (.arr sz N fun j => mixL (decide (j < n)) (lsF c (l ++ junk) j) (chain (c z) 0 [c x] (j - n)))) (some (.arr sz (l ++ [x]).length (lsF c (l ++ [x])))) := by
  subst hn; subst hN
  refine h.row (by simp) fun e he => ?_
  by_cases hl : e < l.length
  · simp only [decide_eq_true hl, lsF, Nat.zero_add, getD_app hl]
    have : chain (c z) 0 [c x] (e - l.length) = c x := by
      rw [show e - l.length = 0 by omega]; exact h.one x z
    rw [this]
    exact h.mixT _ _
  · have he' : e = l.length := by omega
    subst he'
    simp only [decide_eq_false hl, lsF, Nat.zero_add, Nat.sub_self, getD_app' (Nat.le_refl _)]
    rw [h.one]
    exact h.mixF _ _

theorem lsF_at (c : α → List AV) (l : List α) (j : Nat) : lsF c l j = c (l.getD j default) := rfl
/-- a copy -/
theorem Cod.clone (h : Cod c sz) (l junk : List α) (z : α) {N : Nat} (hn : N = l.length) :
    OLe (some (.arr sz N fun j => mixL (decide (j < 0)) (chain (c z) 0 [] j) (lsF c (l ++ junk) j))) (some (.arr sz l.length (lsF c l))) := by
  refine h.row hn fun e he => ?_
  rw [hn] at he
  simp only [Nat.zero_add, lsF_at, getD_app he]
  rw [decide_eq_false (Nat.not_lt_zero e)]
  exact h.mixF _ _
theorem getD_eraseIdx {l : List α} {i j : Nat} : (l.eraseIdx i).getD j default = if j < i then l.getD j default else l.getD (j + 1) default := by
  rw [List.getD_eq_getElem?_getD, List.getElem?_eraseIdx]
  split <;> rw [List.getD_eq_getElem?_getD]
theorem Cod.mixE (h : Cod c sz) {b : Bool} {x y : List AV} {u v : α} (hx : x = c u) (hy : y = c v) : mixL b x y = c (bif b then u else v) := by rw [hx, hy, h.mix]
/-- one goes -/
theorem Cod.del (h : Cod c sz) (l junk : List α) (z : α) {i n : Nat} (hn : n = l.length) (hi : i < l.length) :
    OLe (some (.arr sz (l ++ junk).length fun j => mixL (decide (i + (n - (i + 1)) ≤ j) && decide (j < i + (n - (i + 1)) + (n - (i + (n - (i + 1)))))) (c z)
      (mixL (decide (i ≤ j) && decide (j < i + (n - (i + 1)))) (lsF c (l ++ junk) (i + 1 + (j - i))) (lsF c (l ++ junk) j))))
      (some (.arr sz (l.eraseIdx i ++ (z :: junk)).length (lsF c (l.eraseIdx i ++ (z :: junk))))) := by
  subst hn
  have hle : (l.eraseIdx i).length = l.length - 1 := List.length_eraseIdx_of_lt hi
  refine h.row (by simp [hle]; omega) fun e he => ?_
  simp only [lsF_at, h.mix]
  refine congrArg c ?_
  simp only [cond_eq_ite, Bool.and_eq_true, decide_eq_true_eq]
  rcases Nat.lt_trichotomy e (l.length - 1) with h1 | h1 | h1
  · rw [if_neg (by omega), getD_app (l := l.eraseIdx i) (by omega), getD_eraseIdx]
    by_cases h2 : i ≤ e
    · rw [if_pos (by omega), if_neg (by omega), show i + 1 + (e - i) = e + 1 by omega, getD_app (by omega)]
    · rw [if_neg (by omega), if_pos (by omega), getD_app (by omega)]
  · rw [if_pos (by omega), getD_app' (l := l.eraseIdx i) (by omega), hle, h1, Nat.sub_self]
    rfl
  · rw [if_neg (by omega), if_neg (by omega), getD_app' (l := l.eraseIdx i) (by omega), getD_app' (by omega), hle]
    rw [show e - (l.length - 1) = (e - l.length) + 1 by omega]
    rfl
theorem chain_nil (z : List AV) (i k : Nat) : chain z i [] k = z := rfl
theorem Cod.chain1 (h : Cod c sz) (z x : α) (k : Nat) : chain (c z) 0 [c x] k = c (bif Nat.beq k 0 then x else z) := h.mix _ x z
/-- a copy, and one more -/
theorem Cod.app2 (h : Cod c sz) (l junk : List α) (x z z' : α) {n N : Nat} (hn : n = l.length) (hN : N = l.length + 1) :
    OLe (some (.arr sz N fun j => mixL (decide (j < n)) (mixL (decide (j < 0)) (chain (c z') 0 [] j) (lsF c (l ++ junk) j)) (chain (c z) 0 [c x] (j - n)))) (some (.arr sz (l ++ [x]).length (lsF c (l ++ [x])))) := by
  subst hn; subst hN
  refine h.row (by simp) fun e he => ?_
  simp only [lsF_at, chain_nil, h.chain1, h.mix]
  refine congrArg c ?_
  rw [decide_eq_false (Nat.not_lt_zero e)]
  simp only [cond_false]
  by_cases hl : e < l.length
  · rw [decide_eq_true hl, getD_app hl, getD_app hl]; rfl
  · have he' : e = l.length := by omega
    subst he'
    rw [decide_eq_false hl, getD_app' (l := l) (r := [x]) (Nat.le_refl _), Nat.sub_self]; rfl
/-- what stands ahead of a place, and what stands behind it -/
theorem Cod.del2 (h : Cod c sz) (l junk : List α) (z : α) {i N : Nat} (hi : i < l.length) (hN : N = l.length - 1) :
    OLe (some (.arr sz N fun j => mixL (decide (j < i)) (mixL (decide (j < 0)) (chain (c z) 0 [] j) (lsF c (l ++ junk) j)) (lsF c (l ++ junk) (i + 1 + (j - i))))) (some (.arr sz (l.eraseIdx i).length (lsF c (l.eraseIdx i)))) := by
  subst hN
  have hle : (l.eraseIdx i).length = l.length - 1 := List.length_eraseIdx_of_lt hi
  refine h.row hle.symm fun e he => ?_
  simp only [lsF_at, chain_nil, h.mix]
  refine congrArg c ?_
  rw [decide_eq_false (Nat.not_lt_zero e), getD_eraseIdx]
  simp only [cond_false]
  by_cases hl : e < i
  · rw [decide_eq_true hl, getD_app (by omega), if_pos hl]; rfl
  · rw [decide_eq_false hl, if_neg hl, show i + 1 + (e - i) = e + 1 by omega, getD_app (l := l) (r := junk) (j := e + 1) (by omega)]; rfl
theorem cl_false {p : Prop} : cl p = false ↔ ¬ p := by
  rw [← Bool.not_eq_true, cl_iff]
theorem sat_brT {β : Type} {t e : Tree β} {Q : β → Prop} : (Tree.br true t e).sat Q = t.sat Q := by simp
theorem sat_brF {β : Type} {t e : Tree β} {Q : β → Prop} : (Tree.br false t e).sat Q = e.sat Q := by simp
theorem sat_chkT {β : Type} {t : Tree β} {Q : β → Prop} : (Tree.chk true t).sat Q = t.sat Q := by simp
end
section
variable {P : Program} {Γ : Nat → AV} {X : Type} {S : X → List AV × Heap} {pre : X → Prop} {O : X → Out} {μ : X → Nat} {n : Nat} {o : Out} {fr : List AV} {H : Heap}
theorem owesN : OwesA S pre O μ n o ⟨.normal, fr, H⟩ = ∃ x', LeL fr (S x').1 ∧ LeH H (S x').2 ∧ pre x' ∧ O x' = o ∧ μ x' < n := rfl
theorem owesX {id : Nat} : OwesA S pre O μ n o ⟨.exit id, fr, H⟩ = (.exit id = o.ex ∧ LeL fr o.fr ∧ LeH H o.H) := rfl
theorem owesR : OwesA S pre O μ n o ⟨.ret, fr, H⟩ = (.ret = o.ex ∧ LeL fr o.fr ∧ LeH H o.H) := rfl
theorem RoundOK.of {m N k : Nat} {b : Code} {live : List Nat} {nils : List (Nat × TypeId)} {s : List AV × Heap} {Q : Out → Prop} {T : List (CT P Γ)} {L : Nat → LSpec} {ip : Bool}
    (hL : ∀ (j : Nat) (b' : Code), (loopBodies b)[j]? = some b' → LoopOK P Γ m N b' (L (k + j))) {t : Tree Out} (e : roundE T L ip m k b live nils N s.1 s.2 = t) (h : t.sat Q) : RoundOK P Γ m N k b live nils s Q :=
  ⟨T, L, ip, hL, by rw [e]; exact h⟩
end
/-- a list as an argument: nil, or a slice -/
def lArg {α : Type} [Inhabited α] (c : α → List AV) (sz : Nat) : Option (List α) → AV
  | none => .v (.slice none 0 0)
  | some l => .sl sz l.length (lsF c l)
theorem V0.slCongr {σ : Store} {sz m m' : Nat} {f f' : Nat → List AV} {v : Value} (h : V0 σ (.sl sz m f) v) (hm : m' = m) (he : ∀ e, e < m → f' e = f e) (hl : ∀ e, (f' e).length = sz) : V0 σ (.sl sz m' f') v := by
  subst hm
  cases h with
  | sl _ _ _ ad cap ys hs hn _ hm ho hv => exact .sl sz _ f' ad cap ys hs hn hl (fun e j c h1 h2 => hm e j c h1 (he e h1 ▸ h2)) (fun e j c h1 h2 => ho e j c h1 (he e h1 ▸ h2)) (fun e j c h1 h2 => hv e j c h1 (he e h1 ▸ h2))
  | slnil _ _ _ A cap _ hn ha => exact .slnil sz _ f' A cap hl hn ha
section
open Go.ChangeShapes
variable {H : Type} {enc : TypeId × Value → H} {P : Program} {w : World} {base : Nat} {sp : Nat → Bool} {held : Bool}
theorem open_slL {α : Type} [Inhabited α] (D : Nat) (cells : α → List Value) (c : α → List AV) {ks : List Cel} {sz : Nat} (hsz : ks.length = sz) (hcl : ∀ a, (cells a).length = sz) (hc0 : ∀ a, (cells a).map AV.v = c a) (hdec : ∀ vs, GoodVs ks vs → ∃ a, vs = cells a)
    {t e : TypeId} {v : Value} {r : Reach} {b0 : Nat} {d : DataW H} {ps : List MemPlace} (ht : P.underlying t = some (.slice e)) (hk : ckT P D e = some ks) (hc : P.cellsOf e = sz)
    (hval : Value.okWide P w r b0 t v) (h : DataW.Trod enc P w base sp held t v d ps) :
    ∃ x : Option (List α), V0 (σof w) (lArg c sz x) v ∧ ∀ l, x = some l → ∀ i, i < l.length → GoodVs ks (cells (l.getD i default)) := by
  rcases open_slG D cells hsz hcl hdec ht hk hc hval h with rfl | ⟨m, g, h1, h2⟩
  · exact ⟨none, .v _, fun l h => by simp at h⟩
  · have hg : ∀ e, e < m → ((List.range m).map g).getD e default = g e := fun e he => by
      rw [List.getD_eq_getElem?_getD, List.getElem?_map, List.getElem?_range he]; rfl
    refine ⟨some ((List.range m).map g), h1.slCongr (by simp) (fun e he => ?_) (fun e => by show (c _).length = sz; rw [← hc0]; simp [hcl]), fun l hl i hi => ?_⟩
    · rw [lsF_at, hg e he, hc0]
    · simp only [Option.some.injEq] at hl
      subst hl
      have hi' : i < m := by simpa using hi
      rw [hg i hi']
      exact h2 i hi'
end
theorem failOK {P : Program} {Γ : Nat → AV} {m N : Nat} {c : Code} {L : Nat → LSpec} (h : ∀ j, ∀ vals H, (L j).spec vals H = .fail) : ∀ (j : Nat) (b : Code), (loopBodies c)[j]? = some b → LoopOK P Γ m N b (L j) := fun j b _ vals H o ho => by
  rw [h j] at ho; simp [Tree.get] at ho
section
variable {P : Program} {Γ : Nat → AV}
theorem Contract.res {f : FuncId} {args : List AV} {Hin : List Blk} {r r' : Res} (h : Contract P Γ f args Hin r) (hv : AV.le r.val r'.val) (hH : LeH (r.heap Hin) (r'.heap Hin)) : Contract P Γ f args Hin r' := by
  intro σ φ w vals hG hV hn hR
  exact (h σ φ w vals hG hV hn hR).mono fun e w' ⟨σ', φ', v, e1, e2, e3, e4, e5⟩ => ⟨σ', φ', v, e1, hv.v e2, e3.le (fun i b' hb => hH.get i b' hb), e4, fun k hk => e5 k (by rw [hH.len]; exact hk)⟩
/-- a copy of a list -/
noncomputable def cloneSpecL {α : Type} [Inhabited α] (c : α → List AV) (sz : Nat) (args : List AV) (Hin : List Blk) : Tree Res := match args with
  | [.hs i e n] => match Hin with
    | [.arr sz' N f] => .chk (Nat.beq i 0 && Nat.beq e 0 && Nat.beq sz' sz) (.chk (cl (n ≤ 1000000000 ∧ ∃ l junk : List α, n = l.length ∧ N = (l ++ junk).length ∧ ∀ e, f e = c ((l ++ junk).getD e default))) (.leaf { val := .hs 1 0 n, new := [.arr sz n f] }))
    | _ => .fail
  | _ => .fail
noncomputable def CT.clone {α : Type} [Inhabited α] {c : α → List AV} {sz : Nat} (hc : Cod c sz) (f : FuncId) (h : ∀ l junk : List α, l.length ≤ 1000000000 → Answers P Γ f [.hs 0 0 l.length] [.arr sz (l ++ junk).length (lsF c (l ++ junk))] (.hs 1 0 l.length) [some (.arr sz (l ++ junk).length (lsF c (l ++ junk)))] [.arr sz l.length (lsF c l)]) : CT P Γ where
  f := f
  spec := cloneSpecL c sz
  enters := (h [] [] (by simp)).enters
  ok := fun args Hin r hr => by
    unfold cloneSpecL at hr
    split at hr
    · split at hr
      · obtain ⟨h1, hr⟩ := Tree.chk_get hr
        obtain ⟨h2, hr⟩ := Tree.chk_get hr
        obtain rfl := Tree.leaf_get hr
        obtain ⟨hn, l, junk, rfl, rfl, hf⟩ := cl_iff.1 h2
        simp only [Bool.and_eq_true] at h1
        obtain rfl := Nat.eq_of_beq_eq_true h1.1.1
        obtain rfl := Nat.eq_of_beq_eq_true h1.1.2
        obtain rfl := Nat.eq_of_beq_eq_true h1.2
        obtain rfl : _ = lsF c (l ++ junk) := funext hf
        refine (h l junk hn).ok.res (.refl _) ⟨OLe.refl _, ?_, trivial⟩
        exact OLe.arr rfl (fun e he => by rw [lsF_at, lsF_at, getD_app he]) (fun e => hc.len _)
      · simp [Tree.get] at hr
    · simp [Tree.get] at hr
end
theorem twoLoops {P : Program} {Γ : Nat → AV} {m N : Nat} {c b b' : Code} {L : Nat → LSpec} (h : loopBodies c = [b, b']) (h0 : LoopOK P Γ m N b (L 0)) (h1 : LoopOK P Γ m N b' (L 1)) : ∀ (j : Nat) (b : Code), (loopBodies c)[j]? = some b → LoopOK P Γ m N b (L j) := by
  intro j b hj
  rw [h] at hj
  match j, hj with
  | 0, hj => simp at hj; subst hj; exact h0
  | 1, hj => simp at hj; subst hj; exact h1
  | j + 2, hj => simp at hj
theorem threeLoops {P : Program} {Γ : Nat → AV} {m N : Nat} {c b b' b2 : Code} {L : Nat → LSpec} (h : loopBodies c = [b, b', b2]) (h0 : LoopOK P Γ m N b (L 0)) (h1 : LoopOK P Γ m N b' (L 1)) (h2 : LoopOK P Γ m N b2 (L 2)) : ∀ (j : Nat) (b : Code), (loopBodies c)[j]? = some b → LoopOK P Γ m N b (L j) := by
  intro j b hj
  rw [h] at hj
  match j, hj with
  | 0, hj => simp at hj; subst hj; exact h0
  | 1, hj => simp at hj; subst hj; exact h1
  | 2, hj => simp at hj; subst hj; exact h2
  | j + 3, hj => simp at hj
end Go.Eng

/- net: items in lists; a copy, one that goes. -/
namespace Go.Eng.N
open Go Go.Eng Go.Proofs
set_option linter.unusedSimpArgs false
set_option linter.unusedVariables false
structure It where
  a : Int
  b : Int
  t : ByteArray
instance : Inhabited It := ⟨⟨0, 0, ⟨#[]⟩⟩⟩
def It.c (x : It) : List AV := [.v (.int .i64 x.a), .v (.int .i64 x.b), .v (.string x.t)]
theorem itCod : Cod It.c 3 := ⟨fun _ => rfl, fun b x y => by cases b <;> rfl⟩
noncomputable def loopOf (c : Code) (j : Nat) : Code := match (loopBodies c)[j]? with | some b => b | none => .skip
abbrev itB (L : List It) : Blk := .arr 3 L.length (lsF It.c L)
theorem runCn (L : List It) : bodyE (P := Try.prog) (Γ := Γn) [] Lno false 8 [.tmp 2] (bodyOf Try.f22) [.v (.slice none 0 0)] [itB L] =
  Tree.leaf (Ans.mk (AV.v (Value.slice none (0 : Nat) (0 : Nat))) [some (Blk.arr (3 : Nat) (List.length L) (lsF It.c L))]) := by kernel_rfl
theorem runCs (L : List It) : bodyE (P := Try.prog) (Γ := Γn) [] Lno false 8 [.tmp 2] (bodyOf Try.f22) [.sl 3 0 fun _ => It.c default] [itB L] =
  Tree.chk true
  (Tree.leaf
    (Ans.mk (AV.hs (1 : Nat) (0 : Nat) (0 : Nat))
      [some (Blk.arr (3 : Nat) (List.length L) (lsF It.c L)),
        some
          (Blk.arr (3 : Nat) (0 : Nat) fun j =>
            mixL (decide (j < (0 : Nat)))
              (chain
                [AV.v (Value.int IntKind.i64 (0 : Int)), AV.v (Value.int IntKind.i64 (0 : Int)),
                  AV.v (Value.string (ByteArray.mk #[]))]
                (0 : Nat) [] ((0 : Nat) + j))
              (It.c default))])) := by kernel_rfl
theorem runCh (L : List It) (n : Nat) : bodyE (P := Try.prog) (Γ := Γn) [] Lno false 8 [.tmp 2] (bodyOf Try.f22) [.hs 0 0 n] [itB L] =
  Tree.chk (Nat.blt (0 : Nat) n || Nat.blt (0 : Nat) (List.length L))
  (Tree.chk (roomOk (32 : Nat) ((0 : Nat) + n))
    (Tree.leaf
      (Ans.mk (AV.hs (1 : Nat) (0 : Nat) ((0 : Nat) + n))
        [some (Blk.arr (3 : Nat) (List.length L) (lsF It.c L)),
          some
            (Blk.arr (3 : Nat) ((0 : Nat) + n) fun j =>
              mixL (decide (j < (0 : Nat)))
                (chain
                  [AV.v (Value.int IntKind.i64 (0 : Int)), AV.v (Value.int IntKind.i64 (0 : Int)),
                    AV.v (Value.string (ByteArray.mk #[]))]
                  (0 : Nat) [] ((0 : Nat) + j))
                (lsF It.c L ((0 : Nat) + j)))]))) := by kernel_rfl
theorem room32 {n : Nat} (h : n ≤ 1000000000) : roomOk 32 n = true := by
  unfold roomOk
  exact decide_eq_true (by omega)
theorem ansClone (l junk : List It) (hs : l.length ≤ 1000000000) : Answers Try.prog Γn 22 [.hs 0 0 l.length] [itB (l ++ junk)] (.hs 1 0 l.length) [some (itB (l ++ junk))] [itB l] := by
  by_cases h : 0 < (l ++ junk).length
  · exact answers (fn := Try.f22) (c := bodyOf Try.f22) (ntmps := 8) (results := [.tmp 2]) [] Lno false Try.func22 (by kernel_rfl) (by kernel_rfl) (by kernel_rfl) (by kernel_rfl) (by simp) rfl (noLoops (by kernel_rfl))
      (Meets.of (runCh (l ++ junk) l.length) (by
        simp only [Nat.blt_eq, sat_brT, sat_brF, sat_chkT, cl_iff, cl_false, AV.le_refl, AV.le_any, OLe_refl, OLe_none, Tree.sat_br, Tree.sat_chk, Tree.sat_leaf, Tree.sat_fail, Nat.zero_add, Nat.sub_zero, Int.toNat_natCast, LeH_cons, LeH_nil, LeL_cons, LeL_nil, and_true, true_and, Bool.and_eq_true, Bool.or_eq_true, Bool.or_eq_false_iff, decide_eq_true_eq, decide_eq_false_iff_not, Bool.cond_true_left, Bool.cond_false_right, List.cons_append, List.nil_append, List.map_cons, List.map_nil, List.append_nil]
        repeat' (first | apply And.intro | intro _hc)
        all_goals first | omega | exact .inr h | exact room32 (by omega) | exact itCod.clone l junk default rfl | (exfalso; omega) | contradiction
        ))
  · obtain ⟨rfl, rfl⟩ : l = [] ∧ junk = [] := by
      have : (l ++ junk) = [] := List.eq_nil_of_length_eq_zero (by omega)
      simpa using this
    exact Answers.nilOr (sz := 3) (z := It.c default) rfl
      (answers (fn := Try.f22) (c := bodyOf Try.f22) (ntmps := 8) (results := [.tmp 2]) [] Lno false Try.func22 (by kernel_rfl) (by kernel_rfl) (by kernel_rfl) (by kernel_rfl) (by simp) rfl (noLoops (by kernel_rfl))
        (Meets.of (runCn _) ⟨.refl _, OLe.refl _, trivial⟩))
      (answers (fn := Try.f22) (c := bodyOf Try.f22) (ntmps := 8) (results := [.tmp 2]) [] Lno false Try.func22 (by kernel_rfl) (by kernel_rfl) (by kernel_rfl) (by kernel_rfl) (by simp) rfl (noLoops (by kernel_rfl))
        (Meets.of (runCs _) ⟨rfl, .refl _, OLe.refl _, OLe.arr rfl (fun e he => absurd he (Nat.not_lt_zero e)) (fun _ => rfl), trivial⟩))
theorem runDel (i n : Nat) (L : List It) : bodyE (P := Try.prog) (Γ := Γn) [] Lno true 33 [.tmp 6] (bodyOf Try.f21) [.hs 0 0 n, .v (.int .i64 (i : Int)), .v (.int .i64 ((i + 1 : Nat) : Int))] [itB L] =
  Tree.chk
  (decide ((0 : Int) ≤ (↑i : Int)) && decide ((↑i : Int) ≤ (↑(i + (1 : Nat)) : Int)) &&
      decide ((↑(i + (1 : Nat)) : Int) ≤ (↑n : Int)) &&
    decide ((↑n : Int) ≤ (↑n : Int)))
  (Tree.br (decide ((↑i : Int) = (↑(i + (1 : Nat)) : Int)))
    (Tree.leaf (Ans.mk (AV.hs (0 : Nat) (0 : Nat) n) [some (Blk.arr (3 : Nat) (List.length L) (lsF It.c L))]))
    (Tree.chk (decide ((↑(0 : Nat) : Int) ≤ (↑i : Int)) && decide ((0 : Nat) + i ≤ List.length L))
      (Tree.chk
        (decide ((0 : Int) ≤ (↑(i + (1 : Nat)) : Int)) && decide ((↑(i + (1 : Nat)) : Int) ≤ (↑n : Int)) &&
          decide ((0 : Nat) + n ≤ List.length L))
        (Tree.chk (decide ((0 : Nat) + i + (n - (i + (1 : Nat))) ≤ List.length L))
          (Tree.chk
            (decide ((0 : Int) ≤ (↑(i + (n - (i + (1 : Nat)))) : Int)) &&
                decide ((↑(i + (n - (i + (1 : Nat)))) : Int) ≤ (↑n : Int)) &&
              decide ((0 : Nat) + n ≤ List.length L))
            (Tree.leaf
              (Ans.mk (AV.hs (0 : Nat) (0 : Nat) (i + (n - (i + (1 : Nat)))))
                [some
                    (Blk.arr (3 : Nat) (List.length L) fun j =>
                      mixL
                        (decide ((0 : Nat) + (i + (n - (i + (1 : Nat)))) ≤ j) &&
                          decide (j < (0 : Nat) + (i + (n - (i + (1 : Nat)))) + (n - (i + (n - (i + (1 : Nat)))))))
                        [AV.v (Value.int IntKind.i64 (0 : Int)), AV.v (Value.int IntKind.i64 (0 : Int)),
                          AV.v (Value.string (ByteArray.mk #[]))]
                        (mixL (decide ((0 : Nat) + i ≤ j) && decide (j < (0 : Nat) + i + (n - (i + (1 : Nat)))))
                          (lsF It.c L ((0 : Nat) + (i + (1 : Nat)) + (j - ((0 : Nat) + i)))) (lsF It.c L j)))]))))))) := by kernel_rfl
theorem ansDel (l junk : List It) {i : Nat} (hi : i < l.length) : Answers Try.prog Γn 21 [.hs 0 0 l.length, .v (.int .i64 (i : Int)), .v (.int .i64 ((i + 1 : Nat) : Int))] [itB (l ++ junk)] (.hs 0 0 (l.eraseIdx i).length) [some (itB (l.eraseIdx i ++ (default :: junk)))] [] :=
  answers (fn := Try.f21) (c := bodyOf Try.f21) (ntmps := 33) (results := [.tmp 6]) [] Lno true Try.func21 (by kernel_rfl) (by kernel_rfl) (by kernel_rfl) (by kernel_rfl) (by simp) rfl (noLoops (by kernel_rfl))
    (Meets.of (runDel i l.length (l ++ junk)) (by
      have hle : (l.eraseIdx i).length = l.length - 1 := List.length_eraseIdx_of_lt hi
      have hL : (l ++ junk).length = l.length + junk.length := List.length_append
      have hL : (l ++ junk).length = l.length + junk.length := List.length_append
      simp only [Nat.blt_eq, sat_brT, sat_brF, sat_chkT, cl_iff, cl_false, AV.le_refl, AV.le_any, OLe_refl, OLe_none, Tree.sat_br, Tree.sat_chk, Tree.sat_leaf, Tree.sat_fail, Nat.zero_add, Nat.sub_zero, Int.toNat_natCast, LeH_cons, LeH_nil, LeL_cons, LeL_nil, and_true, true_and, Bool.and_eq_true, Bool.or_eq_true, Bool.or_eq_false_iff, decide_eq_true_eq, decide_eq_false_iff_not, Bool.cond_true_left, Bool.cond_false_right, List.cons_append, List.nil_append, List.map_cons, List.map_nil, List.append_nil]
      repeat' (first | apply And.intro | intro _hc)
      all_goals first | omega | exact itCod.del l junk default rfl hi | ((rw [hle, show i + (l.length - (i + 1)) = l.length - 1 by omega]; exact AV.le_refl _)) | (exfalso; omega) | contradiction
      ))
end Go.Eng.N

/- net: what each call does. -/
namespace Go.Eng.N
open Go Go.Eng Go.Proofs
set_option linter.unusedSimpArgs false
set_option linter.unusedVariables false
/-- a net's row -/
def netR (i : Nat) (mo lo : Int) (n : Nat) : Blk := .row [.v (.int .i64 mo), .v (.int .i64 lo), .hs i 0 n]
def itV (x : It) : AV := .agg [.v (.int .i64 x.a), .v (.int .i64 x.b), .v (.string x.t)]
theorem runSend (x : It) (mo lo : Int) (n : Nat) (L : List It) : bodyE (P := Try.prog) (Γ := Γn) [S.c20] Lno false 16 [.tmp 4] (bodyOf Try.f9) [.ptr 0 0, itV x] [netR 1 mo lo n, itB L] =
  Tree.br (decide ((65536 : Int) < (↑(ByteArray.size x.t) : Int)))
  (Tree.leaf
    (Ans.mk (AV.v (Value.int IntKind.i64 (2 : Int)))
      [some (Blk.row [AV.v (Value.int IntKind.i64 mo), AV.v (Value.int IntKind.i64 lo), AV.hs (1 : Nat) (0 : Nat) n]),
        some (Blk.arr (3 : Nat) (List.length L) (lsF It.c L))]))
  (Tree.br (decide ((↑n : Int) = mo))
    (Tree.leaf
      (Ans.mk (AV.v (Value.int IntKind.i64 (101 : Int)))
        [some
            (Blk.row
              [AV.v (Value.int IntKind.i64 mo),
                AV.v (Value.int IntKind.i64 (IntKind.wrap IntKind.i64 (lo + (1 : Int)))), AV.hs (1 : Nat) (0 : Nat) n]),
          some (Blk.arr (3 : Nat) (List.length L) (lsF It.c L))]))
    (Tree.chk (roomOk (32 : Nat) (n + (1 : Nat)))
      (Tree.leaf
        (Ans.mk (AV.v (Value.int IntKind.i64 (0 : Int)))
          [some
              (Blk.row
                [AV.v (Value.int IntKind.i64 mo), AV.v (Value.int IntKind.i64 lo),
                  AV.hs (2 : Nat) (0 : Nat) (n + (1 : Nat))]),
            none,
            some
              (Blk.arr (3 : Nat) (n + (1 : Nat)) fun j =>
                mixL (decide (j < n)) (lsF It.c L ((0 : Nat) + j))
                  (chain
                    [AV.v (Value.int IntKind.i64 (0 : Int)), AV.v (Value.int IntKind.i64 (0 : Int)),
                      AV.v (Value.string (ByteArray.mk #[]))]
                    (0 : Nat)
                    [[AV.v (Value.int IntKind.i64 x.a), AV.v (Value.int IntKind.i64 x.b), AV.v (Value.string x.t)]]
                    ((0 : Nat) + (j - n))))])))) := by kernel_rfl
theorem runAt (i : Int) (mo lo : Int) (n : Nat) (L : List It) : bodyE (P := Try.prog) (Γ := Γn) [] Lno false 30 [.cell 4 30, .tmp 5] (bodyOf Try.f17) [.ptr 0 0, .v (.int .i64 i)] [netR 1 mo lo n, itB L] =
  Tree.br (bif decide (i < (0 : Int)) then true else decide ((↑n : Int) ≤ i))
  (Tree.leaf
    (Ans.mk
      (AV.tup
        [AV.agg
            [AV.v (Value.int IntKind.i64 (0 : Int)), AV.v (Value.int IntKind.i64 (0 : Int)),
              AV.v (Value.string (ByteArray.mk #[]))],
          AV.v (Value.int IntKind.i64 (240 : Int))])
      [some (Blk.row [AV.v (Value.int IntKind.i64 mo), AV.v (Value.int IntKind.i64 lo), AV.hs (1 : Nat) (0 : Nat) n]),
        some (Blk.arr (3 : Nat) (List.length L) (lsF It.c L))]))
  (Tree.chk (decide ((0 : Int) ≤ i) && decide (i < (↑n : Int)))
    (Tree.leaf
      (Ans.mk
        (AV.tup
          [AV.agg
              [AV.v (Value.int IntKind.i64 (List.getD L ((0 : Nat) + Int.toNat i) default).a),
                AV.v (Value.int IntKind.i64 (List.getD L ((0 : Nat) + Int.toNat i) default).b),
                AV.v (Value.string (List.getD L ((0 : Nat) + Int.toNat i) default).t)],
            AV.v (Value.int IntKind.i64 (0 : Int))])
        [some (Blk.row [AV.v (Value.int IntKind.i64 mo), AV.v (Value.int IntKind.i64 lo), AV.hs (1 : Nat) (0 : Nat) n]),
          some (Blk.arr (3 : Nat) (List.length L) (lsF It.c L))]))) := by kernel_rfl
theorem runSendR (x : It) (mo lo : Int) (n : Nat) (L : List It) : bodyE (P := Try.prog) (Γ := Γn) [] Lno false 38 [.tmp 4] (bodyOf Try.f13) [.ptr 0 0, itV x] [netR 1 mo lo n, itB L] =
  Tree.br (decide ((65536 : Int) < (↑(ByteArray.size x.t) : Int)))
  (Tree.leaf
    (Ans.mk (AV.v (Value.int IntKind.i64 (2 : Int)))
      [some (Blk.row [AV.v (Value.int IntKind.i64 mo), AV.v (Value.int IntKind.i64 lo), AV.hs (1 : Nat) (0 : Nat) n]),
        some (Blk.arr (3 : Nat) (List.length L) (lsF It.c L))]))
  (Tree.br (decide (mo ≤ (↑n : Int)))
    (Tree.leaf
      (Ans.mk (AV.v (Value.int IntKind.i64 (101 : Int)))
        [some
            (Blk.row
              [AV.v (Value.int IntKind.i64 mo),
                AV.v (Value.int IntKind.i64 (IntKind.wrap IntKind.i64 (lo + (1 : Int)))), AV.hs (1 : Nat) (0 : Nat) n]),
          some (Blk.arr (3 : Nat) (List.length L) (lsF It.c L))]))
    (Tree.chk (roomOk (32 : Nat) ((0 : Nat) + n))
      (Tree.chk (roomOk (32 : Nat) ((0 : Nat) + n + (1 : Nat)))
        (Tree.leaf
          (Ans.mk (AV.v (Value.int IntKind.i64 (0 : Int)))
            [some
                (Blk.row
                  [AV.v (Value.int IntKind.i64 mo), AV.v (Value.int IntKind.i64 lo),
                    AV.hs (2 : Nat) (0 : Nat) ((0 : Nat) + n + (1 : Nat))]),
              some (Blk.arr (3 : Nat) (List.length L) (lsF It.c L)),
              some
                (Blk.arr (3 : Nat) ((0 : Nat) + n + (1 : Nat)) fun j =>
                  mixL (decide (j < (0 : Nat) + n))
                    (mixL (decide ((0 : Nat) + j < (0 : Nat)))
                      (chain
                        [AV.v (Value.int IntKind.i64 (0 : Int)), AV.v (Value.int IntKind.i64 (0 : Int)),
                          AV.v (Value.string (ByteArray.mk #[]))]
                        (0 : Nat) [] ((0 : Nat) + ((0 : Nat) + j)))
                      (lsF It.c L ((0 : Nat) + ((0 : Nat) + j))))
                    (chain
                      [AV.v (Value.int IntKind.i64 (0 : Int)), AV.v (Value.int IntKind.i64 (0 : Int)),
                        AV.v (Value.string (ByteArray.mk #[]))]
                      (0 : Nat)
                      [[AV.v (Value.int IntKind.i64 x.a), AV.v (Value.int IntKind.i64 x.b), AV.v (Value.string x.t)]]
                      ((0 : Nat) + (j - ((0 : Nat) + n)))))]))))) := by kernel_rfl
theorem runTakeR (i : Int) (mo lo : Int) (n : Nat) (L : List It) : bodyE (P := Try.prog) (Γ := Γn) [] Lno false 46 [.cell 4 45, .tmp 5] (bodyOf Try.f14) [.ptr 0 0, .v (.int .i64 i)] [netR 1 mo lo n, itB L] =
  Tree.br (bif decide (i < (0 : Int)) then true else decide ((↑n : Int) ≤ i))
  (Tree.leaf
    (Ans.mk
      (AV.tup
        [AV.agg
            [AV.v (Value.int IntKind.i64 (0 : Int)), AV.v (Value.int IntKind.i64 (0 : Int)),
              AV.v (Value.string (ByteArray.mk #[]))],
          AV.v (Value.int IntKind.i64 (240 : Int))])
      [some (Blk.row [AV.v (Value.int IntKind.i64 mo), AV.v (Value.int IntKind.i64 lo), AV.hs (1 : Nat) (0 : Nat) n]),
        some (Blk.arr (3 : Nat) (List.length L) (lsF It.c L))]))
  (Tree.chk (decide ((0 : Int) ≤ i) && decide (i < (↑n : Int)))
    (Tree.chk (decide ((↑(0 : Nat) : Int) ≤ i) && decide (i ≤ (↑n : Int)))
      (Tree.chk (roomOk (32 : Nat) ((0 : Nat) + Int.toNat i))
        (Tree.chk
          (decide ((0 : Int) ≤ IntKind.wrap IntKind.i64 (i + (1 : Int))) &&
              decide (IntKind.wrap IntKind.i64 (i + (1 : Int)) ≤ (↑n : Int)) &&
            decide ((↑n : Int) ≤ (↑n : Int)))
          (Tree.chk
            (roomOk (32 : Nat) ((0 : Nat) + Int.toNat i + (n - Int.toNat (IntKind.wrap IntKind.i64 (i + (1 : Int))))))
            (Tree.leaf
              (Ans.mk
                (AV.tup
                  [AV.agg
                      [AV.v (Value.int IntKind.i64 (List.getD L ((0 : Nat) + Int.toNat i) default).a),
                        AV.v (Value.int IntKind.i64 (List.getD L ((0 : Nat) + Int.toNat i) default).b),
                        AV.v (Value.string (List.getD L ((0 : Nat) + Int.toNat i) default).t)],
                    AV.v (Value.int IntKind.i64 (0 : Int))])
                [some
                    (Blk.row
                      [AV.v (Value.int IntKind.i64 mo), AV.v (Value.int IntKind.i64 lo),
                        AV.hs (2 : Nat) (0 : Nat)
                          ((0 : Nat) + Int.toNat i + (n - Int.toNat (IntKind.wrap IntKind.i64 (i + (1 : Int)))))]),
                  some (Blk.arr (3 : Nat) (List.length L) (lsF It.c L)),
                  some
                    (Blk.arr (3 : Nat)
                      ((0 : Nat) + Int.toNat i + (n - Int.toNat (IntKind.wrap IntKind.i64 (i + (1 : Int))))) fun j =>
                      mixL (decide (j < (0 : Nat) + Int.toNat i))
                        (mixL (decide ((0 : Nat) + j < (0 : Nat)))
                          (chain
                            [AV.v (Value.int IntKind.i64 (0 : Int)), AV.v (Value.int IntKind.i64 (0 : Int)),
                              AV.v (Value.string (ByteArray.mk #[]))]
                            (0 : Nat) [] ((0 : Nat) + ((0 : Nat) + j)))
                          (lsF It.c L ((0 : Nat) + ((0 : Nat) + j))))
                        (lsF It.c L
                          ((0 : Nat) + Int.toNat (IntKind.wrap IntKind.i64 (i + (1 : Int))) +
                            (j - ((0 : Nat) + Int.toNat i)))))]))))))) := by kernel_rfl
theorem runItems (mo lo : Int) (l junk : List It) (hs : l.length ≤ 1000000000) : bodyE (P := Try.prog) (Γ := Γn) [CT.at 22 (ansClone l junk hs)] Lno false 10 [.tmp 2] (bodyOf Try.f12) [.ptr 0 0] [netR 1 mo lo l.length, itB (l ++ junk)] =
  Tree.chk
  (cl
    (LeL [AV.hs (0 : Nat) (0 : Nat) (List.length l)] [AV.hs (0 : Nat) (0 : Nat) (List.length l)] ∧
      LeH [some (Blk.arr (3 : Nat) (List.length (l ++ junk)) (lsF It.c (l ++ junk)))]
        [some (Blk.arr (3 : Nat) (List.length (l ++ junk)) (lsF It.c (l ++ junk)))]))
  (Tree.leaf
    (Ans.mk (AV.hs (2 : Nat) (0 : Nat) (List.length l))
      [some
          (Blk.row
            [AV.v (Value.int IntKind.i64 mo), AV.v (Value.int IntKind.i64 lo),
              AV.hs (1 : Nat) (0 : Nat) (List.length l)]),
        some (Blk.arr (3 : Nat) (List.length (l ++ junk)) (lsF It.c (l ++ junk))),
        some (Blk.arr (3 : Nat) (List.length l) (lsF It.c l))])) := by kernel_rfl
theorem wrapUp {lo : Int} (h0 : 0 ≤ lo) (h1 : lo ≤ 1000000000) : IntKind.wrap IntKind.i64 (lo + 1) = lo + 1 := by rw [wrap64E]; omega
theorem ansSendLong {x : It} {mo lo : Int} {l junk : List It} (h : 65536 < x.t.size) : Answers Try.prog Γn 9 [.ptr 0 0, itV x] [netR 1 mo lo l.length, itB (l ++ junk)] (.v (.int .i64 2)) [some (netR 1 mo lo l.length), some (itB (l ++ junk))] [] :=
  answers (fn := Try.f9) (c := bodyOf Try.f9) (ntmps := 16) (results := [.tmp 4]) [S.c20] Lno false Try.func9 (by kernel_rfl) (by kernel_rfl) (by kernel_rfl) (by kernel_rfl) (by simp) rfl (noLoops (by kernel_rfl)) <| Meets.of (runSend x mo lo l.length (l ++ junk)) <| by
    simp only [Nat.blt_eq, sat_brT, sat_brF, sat_chkT, cl_iff, cl_false, AV.le_refl, AV.le_any, OLe_refl, OLe_none, Tree.sat_br, Tree.sat_chk, Tree.sat_leaf, Tree.sat_fail, Nat.zero_add, Nat.sub_zero, Int.toNat_natCast, LeH_cons, LeH_nil, LeL_cons, LeL_nil, and_true, true_and, Bool.and_eq_true, Bool.or_eq_true, Bool.or_eq_false_iff, decide_eq_true_eq, decide_eq_false_iff_not, Bool.cond_true_left, Bool.cond_false_right, List.cons_append, List.nil_append, List.map_cons, List.map_nil, List.append_nil]
    repeat' (first | apply And.intro | intro _hc)
    all_goals first | omega | exact AV.le_refl _ | exact OLe.refl _ | (exfalso; omega) | contradiction
theorem ansSendFull {x : It} {mo lo : Int} {l junk : List It} (h : x.t.size ≤ 65536) (h2 : (l.length : Int) = mo) (h0 : 0 ≤ lo) (h1 : lo ≤ 1000000000) : Answers Try.prog Γn 9 [.ptr 0 0, itV x] [netR 1 mo lo l.length, itB (l ++ junk)] (.v (.int .i64 101)) [some (netR 1 mo (lo + 1) l.length), some (itB (l ++ junk))] [] :=
  answers (fn := Try.f9) (c := bodyOf Try.f9) (ntmps := 16) (results := [.tmp 4]) [S.c20] Lno false Try.func9 (by kernel_rfl) (by kernel_rfl) (by kernel_rfl) (by kernel_rfl) (by simp) rfl (noLoops (by kernel_rfl)) <| Meets.of (runSend x mo lo l.length (l ++ junk)) <| by
    simp only [Nat.blt_eq, sat_brT, sat_brF, sat_chkT, cl_iff, cl_false, AV.le_refl, AV.le_any, OLe_refl, OLe_none, Tree.sat_br, Tree.sat_chk, Tree.sat_leaf, Tree.sat_fail, Nat.zero_add, Nat.sub_zero, Int.toNat_natCast, LeH_cons, LeH_nil, LeL_cons, LeL_nil, and_true, true_and, Bool.and_eq_true, Bool.or_eq_true, Bool.or_eq_false_iff, decide_eq_true_eq, decide_eq_false_iff_not, Bool.cond_true_left, Bool.cond_false_right, List.cons_append, List.nil_append, List.map_cons, List.map_nil, List.append_nil, wrapUp h0 h1]
    repeat' (first | apply And.intro | intro _hc)
    all_goals first | omega | exact AV.le_refl _ | exact OLe.refl _ | (exfalso; omega) | contradiction
theorem ansSendOk {x : It} {mo lo : Int} {l junk : List It} (h : x.t.size ≤ 65536) (h2 : (l.length : Int) ≠ mo) (hs : l.length ≤ 999999999) : Answers Try.prog Γn 9 [.ptr 0 0, itV x] [netR 1 mo lo l.length, itB (l ++ junk)] (.v (.int .i64 0)) [some (netR 2 mo lo (l ++ [x]).length), none] [itB (l ++ [x])] :=
  answers (fn := Try.f9) (c := bodyOf Try.f9) (ntmps := 16) (results := [.tmp 4]) [S.c20] Lno false Try.func9 (by kernel_rfl) (by kernel_rfl) (by kernel_rfl) (by kernel_rfl) (by simp) rfl (noLoops (by kernel_rfl)) <| Meets.of (runSend x mo lo l.length (l ++ junk)) <| by
    simp only [Nat.blt_eq, sat_brT, sat_brF, sat_chkT, cl_iff, cl_false, AV.le_refl, AV.le_any, OLe_refl, OLe_none, Tree.sat_br, Tree.sat_chk, Tree.sat_leaf, Tree.sat_fail, Nat.zero_add, Nat.sub_zero, Int.toNat_natCast, LeH_cons, LeH_nil, LeL_cons, LeL_nil, and_true, true_and, Bool.and_eq_true, Bool.or_eq_true, Bool.or_eq_false_iff, decide_eq_true_eq, decide_eq_false_iff_not, Bool.cond_true_left, Bool.cond_false_right, List.cons_append, List.nil_append, List.map_cons, List.map_nil, List.append_nil]
    repeat' (first | apply And.intro | intro _hc)
    all_goals first | omega | exact AV.le_refl _ | exact OLe.refl _ | exact room32 (by omega) | ((rw [List.length_append]; exact OLe.refl _)) | exact itCod.app1 l junk x default rfl rfl | (exfalso; omega) | contradiction
theorem ansAtNo {i : Int} {mo lo : Int} {l junk : List It} (h : i < 0 ∨ (l.length : Int) ≤ i) : Answers Try.prog Γn 17 [.ptr 0 0, .v (.int .i64 i)] [netR 1 mo lo l.length, itB (l ++ junk)] (.tup [itV default, .v (.int .i64 240)]) [some (netR 1 mo lo l.length), some (itB (l ++ junk))] [] :=
  answers (fn := Try.f17) (c := bodyOf Try.f17) (ntmps := 30) (results := [.cell 4 30, .tmp 5]) [] Lno false Try.func17 (by kernel_rfl) (by kernel_rfl) (by kernel_rfl) (by kernel_rfl) (by simp) rfl (noLoops (by kernel_rfl)) <| Meets.of (runAt i mo lo l.length (l ++ junk)) <| by
    simp only [Nat.blt_eq, sat_brT, sat_brF, sat_chkT, cl_iff, cl_false, AV.le_refl, AV.le_any, OLe_refl, OLe_none, Tree.sat_br, Tree.sat_chk, Tree.sat_leaf, Tree.sat_fail, Nat.zero_add, Nat.sub_zero, Int.toNat_natCast, LeH_cons, LeH_nil, LeL_cons, LeL_nil, and_true, true_and, Bool.and_eq_true, Bool.or_eq_true, Bool.or_eq_false_iff, decide_eq_true_eq, decide_eq_false_iff_not, Bool.cond_true_left, Bool.cond_false_right, List.cons_append, List.nil_append, List.map_cons, List.map_nil, List.append_nil]
    repeat' (first | apply And.intro | intro _hc)
    all_goals first | omega | exact AV.le_refl _ | exact OLe.refl _ | (exfalso; omega) | contradiction
theorem ansAt {i : Nat} {mo lo : Int} {l junk : List It} (h : i < l.length) : Answers Try.prog Γn 17 [.ptr 0 0, .v (.int .i64 (i : Int))] [netR 1 mo lo l.length, itB (l ++ junk)] (.tup [itV (l.getD i default), .v (.int .i64 0)]) [some (netR 1 mo lo l.length), some (itB (l ++ junk))] [] :=
  answers (fn := Try.f17) (c := bodyOf Try.f17) (ntmps := 30) (results := [.cell 4 30, .tmp 5]) [] Lno false Try.func17 (by kernel_rfl) (by kernel_rfl) (by kernel_rfl) (by kernel_rfl) (by simp) rfl (noLoops (by kernel_rfl)) <| Meets.of (runAt i mo lo l.length (l ++ junk)) <| by
    simp only [Nat.blt_eq, sat_brT, sat_brF, sat_chkT, cl_iff, cl_false, AV.le_refl, AV.le_any, OLe_refl, OLe_none, Tree.sat_br, Tree.sat_chk, Tree.sat_leaf, Tree.sat_fail, Nat.zero_add, Nat.sub_zero, Int.toNat_natCast, LeH_cons, LeH_nil, LeL_cons, LeL_nil, and_true, true_and, Bool.and_eq_true, Bool.or_eq_true, Bool.or_eq_false_iff, decide_eq_true_eq, decide_eq_false_iff_not, Bool.cond_true_left, Bool.cond_false_right, List.cons_append, List.nil_append, List.map_cons, List.map_nil, List.append_nil, getD_app h]
    repeat' (first | apply And.intro | intro _hc)
    all_goals first | omega | exact AV.le_refl _ | exact OLe.refl _ | (exfalso; omega) | contradiction
theorem runTakeNo (i : Int) (mo lo : Int) (l junk : List It) (h : i < 0 ∨ (l.length : Int) ≤ i) : bodyE (P := Try.prog) (Γ := Γn) [CT.at 17 (ansAtNo (i := i) (mo := mo) (lo := lo) (l := l) (junk := junk) h)] Lno false 29 [.cell 4 30, .tmp 5] (bodyOf Try.f11) [.ptr 0 0, .v (.int .i64 i)] [netR 1 mo lo l.length, itB (l ++ junk)] =
  Tree.chk
  (cl
    (LeL [AV.ptr (0 : Nat) (0 : Nat), AV.v (Value.int IntKind.i64 i)]
        [AV.ptr (0 : Nat) (0 : Nat), AV.v (Value.int IntKind.i64 i)] ∧
      LeH
        [some
            (Blk.row
              [AV.v (Value.int IntKind.i64 mo), AV.v (Value.int IntKind.i64 lo),
                AV.hs (1 : Nat) (0 : Nat) (List.length l)]),
          some (Blk.arr (3 : Nat) (List.length (l ++ junk)) (lsF It.c (l ++ junk)))]
        [some
            (Blk.row
              [AV.v (Value.int IntKind.i64 mo), AV.v (Value.int IntKind.i64 lo),
                AV.hs (1 : Nat) (0 : Nat) (List.length l)]),
          some (Blk.arr (3 : Nat) (List.length (l ++ junk)) (lsF It.c (l ++ junk)))]))
  (Tree.br false Tree.fail
    (Tree.leaf
      (Ans.mk
        (AV.tup
          [AV.agg
              [AV.v (Value.int IntKind.i64 (0 : Int)), AV.v (Value.int IntKind.i64 (0 : Int)),
                AV.v (Value.string (ByteArray.mk #[]))],
            AV.v (Value.int IntKind.i64 (240 : Int))])
        [some
            (Blk.row
              [AV.v (Value.int IntKind.i64 mo), AV.v (Value.int IntKind.i64 lo),
                AV.hs (1 : Nat) (0 : Nat) (List.length l)]),
          some (Blk.arr (3 : Nat) (List.length (l ++ junk)) (lsF It.c (l ++ junk)))]))) := by kernel_rfl
theorem runTake (i : Nat) (mo lo : Int) (l junk : List It) (h : i < l.length) : bodyE (P := Try.prog) (Γ := Γn) [CT.at 17 (ansAt (i := i) (mo := mo) (lo := lo) (l := l) (junk := junk) h), CT.at 21 (ansDel l junk h)] Lno false 29 [.cell 4 30, .tmp 5] (bodyOf Try.f11) [.ptr 0 0, .v (.int .i64 (i : Int))] [netR 1 mo lo l.length, itB (l ++ junk)] =
  Tree.chk
  (cl
    (LeL [AV.ptr (0 : Nat) (0 : Nat), AV.v (Value.int IntKind.i64 (↑i : Int))]
        [AV.ptr (0 : Nat) (0 : Nat), AV.v (Value.int IntKind.i64 (↑i : Int))] ∧
      LeH
        [some
            (Blk.row
              [AV.v (Value.int IntKind.i64 mo), AV.v (Value.int IntKind.i64 lo),
                AV.hs (1 : Nat) (0 : Nat) (List.length l)]),
          some (Blk.arr (3 : Nat) (List.length (l ++ junk)) (lsF It.c (l ++ junk)))]
        [some
            (Blk.row
              [AV.v (Value.int IntKind.i64 mo), AV.v (Value.int IntKind.i64 lo),
                AV.hs (1 : Nat) (0 : Nat) (List.length l)]),
          some (Blk.arr (3 : Nat) (List.length (l ++ junk)) (lsF It.c (l ++ junk)))]))
  (Tree.br true
    (Tree.chk
      (cl
        (LeL
            [AV.hs (0 : Nat) (0 : Nat) (List.length l), AV.v (Value.int IntKind.i64 (↑i : Int)),
              AV.v (Value.int IntKind.i64 (IntKind.wrap IntKind.i64 ((↑i : Int) + (1 : Int))))]
            [AV.hs (0 : Nat) (0 : Nat) (List.length l), AV.v (Value.int IntKind.i64 (↑i : Int)),
              AV.v (Value.int IntKind.i64 (↑(i + (1 : Nat)) : Int))] ∧
          LeH [some (Blk.arr (3 : Nat) (List.length (l ++ junk)) (lsF It.c (l ++ junk)))]
            [some (Blk.arr (3 : Nat) (List.length (l ++ junk)) (lsF It.c (l ++ junk)))]))
      (Tree.leaf
        (Ans.mk
          (AV.tup
            [AV.agg
                [AV.v (Value.int IntKind.i64 (List.getD l i default).a),
                  AV.v (Value.int IntKind.i64 (List.getD l i default).b),
                  AV.v (Value.string (List.getD l i default).t)],
              AV.v (Value.int IntKind.i64 (0 : Int))])
          [some
              (Blk.row
                [AV.v (Value.int IntKind.i64 mo), AV.v (Value.int IntKind.i64 lo),
                  AV.hs (1 : Nat) (0 : Nat) (List.length (List.eraseIdx l i))]),
            some
              (Blk.arr (3 : Nat) (List.length (List.eraseIdx l i ++ default :: junk))
                (lsF It.c (List.eraseIdx l i ++ default :: junk)))])))
    (Tree.leaf
      (Ans.mk
        (AV.tup
          [AV.agg
              [AV.v (Value.int IntKind.i64 (List.getD l i default).a),
                AV.v (Value.int IntKind.i64 (List.getD l i default).b), AV.v (Value.string (List.getD l i default).t)],
            AV.v (Value.int IntKind.i64 (0 : Int))])
        [some
            (Blk.row
              [AV.v (Value.int IntKind.i64 mo), AV.v (Value.int IntKind.i64 lo),
                AV.hs (1 : Nat) (0 : Nat) (List.length l)]),
          some (Blk.arr (3 : Nat) (List.length (l ++ junk)) (lsF It.c (l ++ junk)))]))) := by kernel_rfl
theorem runDblNo (i : Int) (mo lo : Int) (l junk : List It) (h : i < 0 ∨ (l.length : Int) ≤ i) : bodyE (P := Try.prog) (Γ := Γn) [CT.at 17 (ansAtNo (i := i) (mo := mo) (lo := lo) (l := l) (junk := junk) h)] Lno false 19 [.tmp 4] (bodyOf Try.f15) [.ptr 0 0, .v (.int .i64 i)] [netR 1 mo lo l.length, itB (l ++ junk)] =
  Tree.chk
  (cl
    (LeL [AV.ptr (0 : Nat) (0 : Nat), AV.v (Value.int IntKind.i64 i)]
        [AV.ptr (0 : Nat) (0 : Nat), AV.v (Value.int IntKind.i64 i)] ∧
      LeH
        [some
            (Blk.row
              [AV.v (Value.int IntKind.i64 mo), AV.v (Value.int IntKind.i64 lo),
                AV.hs (1 : Nat) (0 : Nat) (List.length l)]),
          some (Blk.arr (3 : Nat) (List.length (l ++ junk)) (lsF It.c (l ++ junk)))]
        [some
            (Blk.row
              [AV.v (Value.int IntKind.i64 mo), AV.v (Value.int IntKind.i64 lo),
                AV.hs (1 : Nat) (0 : Nat) (List.length l)]),
          some (Blk.arr (3 : Nat) (List.length (l ++ junk)) (lsF It.c (l ++ junk)))]))
  (Tree.br true
    (Tree.leaf
      (Ans.mk (AV.v (Value.int IntKind.i64 (240 : Int)))
        [some
            (Blk.row
              [AV.v (Value.int IntKind.i64 mo), AV.v (Value.int IntKind.i64 lo),
                AV.hs (1 : Nat) (0 : Nat) (List.length l)]),
          some (Blk.arr (3 : Nat) (List.length (l ++ junk)) (lsF It.c (l ++ junk)))]))
    Tree.fail) := by kernel_rfl
theorem runDbl' (i : Nat) (mo lo : Int) (l junk : List It) (h : i < l.length) : bodyE (P := Try.prog) (Γ := Γn) [CT.at 17 (ansAt (i := i) (mo := mo) (lo := lo) (l := l) (junk := junk) h), S.c20] Lno false 19 [.tmp 4] (bodyOf Try.f15) [.ptr 0 0, .v (.int .i64 (i : Int))] [netR 1 mo lo l.length, itB (l ++ junk)] =
  Tree.chk
  (cl
    (LeL [AV.ptr (0 : Nat) (0 : Nat), AV.v (Value.int IntKind.i64 (↑i : Int))]
        [AV.ptr (0 : Nat) (0 : Nat), AV.v (Value.int IntKind.i64 (↑i : Int))] ∧
      LeH
        [some
            (Blk.row
              [AV.v (Value.int IntKind.i64 mo), AV.v (Value.int IntKind.i64 lo),
                AV.hs (1 : Nat) (0 : Nat) (List.length l)]),
          some (Blk.arr (3 : Nat) (List.length (l ++ junk)) (lsF It.c (l ++ junk)))]
        [some
            (Blk.row
              [AV.v (Value.int IntKind.i64 mo), AV.v (Value.int IntKind.i64 lo),
                AV.hs (1 : Nat) (0 : Nat) (List.length l)]),
          some (Blk.arr (3 : Nat) (List.length (l ++ junk)) (lsF It.c (l ++ junk)))]))
  (Tree.br false
    (Tree.leaf
      (Ans.mk (AV.v (Value.int IntKind.i64 (0 : Int)))
        [some
            (Blk.row
              [AV.v (Value.int IntKind.i64 mo), AV.v (Value.int IntKind.i64 lo),
                AV.hs (1 : Nat) (0 : Nat) (List.length l)]),
          some (Blk.arr (3 : Nat) (List.length (l ++ junk)) (lsF It.c (l ++ junk)))]))
    (Tree.br (decide ((↑(List.length l) : Int) = mo))
      (Tree.leaf
        (Ans.mk (AV.v (Value.int IntKind.i64 (101 : Int)))
          [some
              (Blk.row
                [AV.v (Value.int IntKind.i64 mo),
                  AV.v (Value.int IntKind.i64 (IntKind.wrap IntKind.i64 (lo + (1 : Int)))),
                  AV.hs (1 : Nat) (0 : Nat) (List.length l)]),
            some (Blk.arr (3 : Nat) (List.length (l ++ junk)) (lsF It.c (l ++ junk)))]))
      (Tree.chk (roomOk (32 : Nat) (List.length l + (1 : Nat)))
        (Tree.leaf
          (Ans.mk (AV.v (Value.int IntKind.i64 (0 : Int)))
            [some
                (Blk.row
                  [AV.v (Value.int IntKind.i64 mo), AV.v (Value.int IntKind.i64 lo),
                    AV.hs (2 : Nat) (0 : Nat) (List.length l + (1 : Nat))]),
              none,
              some
                (Blk.arr (3 : Nat) (List.length l + (1 : Nat)) fun j =>
                  mixL (decide (j < List.length l)) (lsF It.c (l ++ junk) ((0 : Nat) + j))
                    (chain
                      [AV.v (Value.int IntKind.i64 (0 : Int)), AV.v (Value.int IntKind.i64 (0 : Int)),
                        AV.v (Value.string (ByteArray.mk #[]))]
                      (0 : Nat)
                      [[AV.v (Value.int IntKind.i64 (List.getD l i default).a),
                          AV.v (Value.int IntKind.i64 (List.getD l i default).b),
                          AV.v (Value.string (List.getD l i default).t)]]
                      ((0 : Nat) + (j - List.length l))))]))))) := by kernel_rfl
end Go.Eng.N

/- net: what each call does, second part. -/
namespace Go.Eng.N
open Go Go.Eng Go.Proofs
set_option linter.unusedSimpArgs false
set_option linter.unusedVariables false
theorem wrapUpN {i : Nat} (h : i ≤ 1000000000) : IntKind.wrap IntKind.i64 ((i : Int) + 1) = ((i + 1 : Nat) : Int) := by rw [wrap64E]; omega
theorem ansTakeNo {i : Int} {mo lo : Int} {l junk : List It} (h : i < 0 ∨ (l.length : Int) ≤ i) : Answers Try.prog Γn 11 [.ptr 0 0, .v (.int .i64 i)] [netR 1 mo lo l.length, itB (l ++ junk)] (.tup [itV default, .v (.int .i64 240)]) [some (netR 1 mo lo l.length), some (itB (l ++ junk))] [] :=
  answers (fn := Try.f11) (c := bodyOf Try.f11) (ntmps := 29) (results := [.cell 4 30, .tmp 5]) [CT.at 17 (ansAtNo (i := i) (mo := mo) (lo := lo) (l := l) (junk := junk) h)] Lno false Try.func11 (by kernel_rfl) (by kernel_rfl) (by kernel_rfl) (by kernel_rfl) (by simp) rfl (noLoops (by kernel_rfl)) <| Meets.of (runTakeNo i mo lo l junk h) <| by
    simp only [not_true_eq_false, not_false_eq_true, false_implies, true_implies, implies_true, Nat.blt_eq, owesN, owesX, owesR, Bool.not_eq_true', Bool.not_eq_false', Bool.and_eq_false_iff, sat_brT, sat_brF, sat_chkT, cl_iff, cl_false, AV.le_refl, AV.le_any, OLe_refl, OLe_none, Tree.sat_br, Tree.sat_chk, Tree.sat_leaf, Tree.sat_fail, Nat.zero_add, Nat.sub_zero, Int.toNat_natCast, LeH_cons, LeH_nil, LeL_cons, LeL_nil, and_true, true_and, Bool.and_eq_true, Bool.or_eq_true, Bool.or_eq_false_iff, decide_eq_true_eq, decide_eq_false_iff_not, Bool.cond_true_left, Bool.cond_false_right, List.cons_append, List.nil_append, List.map_cons, List.map_nil, List.append_nil]
    repeat' (first | apply And.intro | intro _hc)
    all_goals first | omega | exact AV.le_refl _ | exact OLe.refl _ | exact LeH.refl _ | exact LeL.refl _ | exact AV.le.bs _ | exact AV.le.sb _ | (exfalso; omega) | contradiction
theorem ansTake {i : Nat} {mo lo : Int} {l junk : List It} (h : i < l.length) (hs : l.length ≤ 999999999) : Answers Try.prog Γn 11 [.ptr 0 0, .v (.int .i64 (i : Int))] [netR 1 mo lo l.length, itB (l ++ junk)] (.tup [itV (l.getD i default), .v (.int .i64 0)]) [some (netR 1 mo lo (l.eraseIdx i).length), some (itB (l.eraseIdx i ++ default :: junk))] [] :=
  answers (fn := Try.f11) (c := bodyOf Try.f11) (ntmps := 29) (results := [.cell 4 30, .tmp 5]) [CT.at 17 (ansAt (i := i) (mo := mo) (lo := lo) (l := l) (junk := junk) h), CT.at 21 (ansDel l junk h)] Lno false Try.func11 (by kernel_rfl) (by kernel_rfl) (by kernel_rfl) (by kernel_rfl) (by simp) rfl (noLoops (by kernel_rfl)) <| Meets.of (runTake i mo lo l junk h) <| by
    simp only [not_true_eq_false, not_false_eq_true, false_implies, true_implies, implies_true, Nat.blt_eq, owesN, owesX, owesR, Bool.not_eq_true', Bool.not_eq_false', Bool.and_eq_false_iff, sat_brT, sat_brF, sat_chkT, cl_iff, cl_false, AV.le_refl, AV.le_any, OLe_refl, OLe_none, Tree.sat_br, Tree.sat_chk, Tree.sat_leaf, Tree.sat_fail, Nat.zero_add, Nat.sub_zero, Int.toNat_natCast, LeH_cons, LeH_nil, LeL_cons, LeL_nil, and_true, true_and, Bool.and_eq_true, Bool.or_eq_true, Bool.or_eq_false_iff, decide_eq_true_eq, decide_eq_false_iff_not, Bool.cond_true_left, Bool.cond_false_right, List.cons_append, List.nil_append, List.map_cons, List.map_nil, List.append_nil, wrapUpN (show i ≤ 1000000000 by omega)]
    repeat' (first | apply And.intro | intro _hc)
    all_goals first | omega | exact AV.le_refl _ | exact OLe.refl _ | exact LeH.refl _ | exact LeL.refl _ | exact AV.le.bs _ | exact AV.le.sb _ | (exfalso; omega) | contradiction
theorem ansDblNo {i : Int} {mo lo : Int} {l junk : List It} (h : i < 0 ∨ (l.length : Int) ≤ i) : Answers Try.prog Γn 15 [.ptr 0 0, .v (.int .i64 i)] [netR 1 mo lo l.length, itB (l ++ junk)] (.v (.int .i64 240)) [some (netR 1 mo lo l.length), some (itB (l ++ junk))] [] :=
  answers (fn := Try.f15) (c := bodyOf Try.f15) (ntmps := 19) (results := [.tmp 4]) [CT.at 17 (ansAtNo (i := i) (mo := mo) (lo := lo) (l := l) (junk := junk) h)] Lno false Try.func15 (by kernel_rfl) (by kernel_rfl) (by kernel_rfl) (by kernel_rfl) (by simp) rfl (noLoops (by kernel_rfl)) <| Meets.of (runDblNo i mo lo l junk h) <| by
    simp only [not_true_eq_false, not_false_eq_true, false_implies, true_implies, implies_true, Nat.blt_eq, owesN, owesX, owesR, Bool.not_eq_true', Bool.not_eq_false', Bool.and_eq_false_iff, sat_brT, sat_brF, sat_chkT, cl_iff, cl_false, AV.le_refl, AV.le_any, OLe_refl, OLe_none, Tree.sat_br, Tree.sat_chk, Tree.sat_leaf, Tree.sat_fail, Nat.zero_add, Nat.sub_zero, Int.toNat_natCast, LeH_cons, LeH_nil, LeL_cons, LeL_nil, and_true, true_and, Bool.and_eq_true, Bool.or_eq_true, Bool.or_eq_false_iff, decide_eq_true_eq, decide_eq_false_iff_not, Bool.cond_true_left, Bool.cond_false_right, List.cons_append, List.nil_append, List.map_cons, List.map_nil, List.append_nil]
    repeat' (first | apply And.intro | intro _hc)
    all_goals first | omega | exact AV.le_refl _ | exact OLe.refl _ | exact LeH.refl _ | exact LeL.refl _ | exact AV.le.bs _ | exact AV.le.sb _ | (exfalso; omega) | contradiction
theorem ansDblFull {i : Nat} {mo lo : Int} {l junk : List It} (h : i < l.length) (h2 : (l.length : Int) = mo) (h0 : 0 ≤ lo) (h1 : lo ≤ 1000000000) : Answers Try.prog Γn 15 [.ptr 0 0, .v (.int .i64 (i : Int))] [netR 1 mo lo l.length, itB (l ++ junk)] (.v (.int .i64 101)) [some (netR 1 mo (lo + 1) l.length), some (itB (l ++ junk))] [] :=
  answers (fn := Try.f15) (c := bodyOf Try.f15) (ntmps := 19) (results := [.tmp 4]) [CT.at 17 (ansAt (i := i) (mo := mo) (lo := lo) (l := l) (junk := junk) h), S.c20] Lno false Try.func15 (by kernel_rfl) (by kernel_rfl) (by kernel_rfl) (by kernel_rfl) (by simp) rfl (noLoops (by kernel_rfl)) <| Meets.of (runDbl' i mo lo l junk h) <| by
    simp only [not_true_eq_false, not_false_eq_true, false_implies, true_implies, implies_true, Nat.blt_eq, owesN, owesX, owesR, Bool.not_eq_true', Bool.not_eq_false', Bool.and_eq_false_iff, sat_brT, sat_brF, sat_chkT, cl_iff, cl_false, AV.le_refl, AV.le_any, OLe_refl, OLe_none, Tree.sat_br, Tree.sat_chk, Tree.sat_leaf, Tree.sat_fail, Nat.zero_add, Nat.sub_zero, Int.toNat_natCast, LeH_cons, LeH_nil, LeL_cons, LeL_nil, and_true, true_and, Bool.and_eq_true, Bool.or_eq_true, Bool.or_eq_false_iff, decide_eq_true_eq, decide_eq_false_iff_not, Bool.cond_true_left, Bool.cond_false_right, List.cons_append, List.nil_append, List.map_cons, List.map_nil, List.append_nil, wrapUp h0 h1]
    repeat' (first | apply And.intro | intro _hc)
    all_goals first | omega | exact AV.le_refl _ | exact OLe.refl _ | exact LeH.refl _ | exact LeL.refl _ | exact AV.le.bs _ | exact AV.le.sb _ | (exfalso; omega) | contradiction
theorem ansDblOk {i : Nat} {mo lo : Int} {l junk : List It} (h : i < l.length) (h2 : (l.length : Int) ≠ mo) (hs : l.length ≤ 999999999) : Answers Try.prog Γn 15 [.ptr 0 0, .v (.int .i64 (i : Int))] [netR 1 mo lo l.length, itB (l ++ junk)] (.v (.int .i64 0)) [some (netR 2 mo lo (l ++ [l.getD i default]).length), none] [itB (l ++ [l.getD i default])] :=
  answers (fn := Try.f15) (c := bodyOf Try.f15) (ntmps := 19) (results := [.tmp 4]) [CT.at 17 (ansAt (i := i) (mo := mo) (lo := lo) (l := l) (junk := junk) h), S.c20] Lno false Try.func15 (by kernel_rfl) (by kernel_rfl) (by kernel_rfl) (by kernel_rfl) (by simp) rfl (noLoops (by kernel_rfl)) <| Meets.of (runDbl' i mo lo l junk h) <| by
    simp only [not_true_eq_false, not_false_eq_true, false_implies, true_implies, implies_true, Nat.blt_eq, owesN, owesX, owesR, Bool.not_eq_true', Bool.not_eq_false', Bool.and_eq_false_iff, sat_brT, sat_brF, sat_chkT, cl_iff, cl_false, AV.le_refl, AV.le_any, OLe_refl, OLe_none, Tree.sat_br, Tree.sat_chk, Tree.sat_leaf, Tree.sat_fail, Nat.zero_add, Nat.sub_zero, Int.toNat_natCast, LeH_cons, LeH_nil, LeL_cons, LeL_nil, and_true, true_and, Bool.and_eq_true, Bool.or_eq_true, Bool.or_eq_false_iff, decide_eq_true_eq, decide_eq_false_iff_not, Bool.cond_true_left, Bool.cond_false_right, List.cons_append, List.nil_append, List.map_cons, List.map_nil, List.append_nil]
    repeat' (first | apply And.intro | intro _hc)
    all_goals first | omega | exact AV.le_refl _ | exact OLe.refl _ | exact LeH.refl _ | exact LeL.refl _ | exact AV.le.bs _ | exact AV.le.sb _ | exact room32 (by omega) | ((rw [List.length_append]; exact OLe.refl _)) | exact itCod.app1 l junk _ default rfl rfl | (exfalso; omega) | contradiction
theorem ansItems {mo lo : Int} {l junk : List It} (hs : l.length ≤ 1000000000) : Answers Try.prog Γn 12 [.ptr 0 0] [netR 1 mo lo l.length, itB (l ++ junk)] (.hs 2 0 l.length) [some (netR 1 mo lo l.length), some (itB (l ++ junk))] [itB l] :=
  answers (fn := Try.f12) (c := bodyOf Try.f12) (ntmps := 10) (results := [.tmp 2]) [CT.at 22 (ansClone l junk hs)] Lno false Try.func12 (by kernel_rfl) (by kernel_rfl) (by kernel_rfl) (by kernel_rfl) (by simp) rfl (noLoops (by kernel_rfl)) <| Meets.of (runItems mo lo l junk hs) <| by
    simp only [not_true_eq_false, not_false_eq_true, false_implies, true_implies, implies_true, Nat.blt_eq, owesN, owesX, owesR, Bool.not_eq_true', Bool.not_eq_false', Bool.and_eq_false_iff, sat_brT, sat_brF, sat_chkT, cl_iff, cl_false, AV.le_refl, AV.le_any, OLe_refl, OLe_none, Tree.sat_br, Tree.sat_chk, Tree.sat_leaf, Tree.sat_fail, Nat.zero_add, Nat.sub_zero, Int.toNat_natCast, LeH_cons, LeH_nil, LeL_cons, LeL_nil, and_true, true_and, Bool.and_eq_true, Bool.or_eq_true, Bool.or_eq_false_iff, decide_eq_true_eq, decide_eq_false_iff_not, Bool.cond_true_left, Bool.cond_false_right, List.cons_append, List.nil_append, List.map_cons, List.map_nil, List.append_nil]
    repeat' (first | apply And.intro | intro _hc)
    all_goals first | omega | exact AV.le_refl _ | exact OLe.refl _ | exact LeH.refl _ | exact LeL.refl _ | exact AV.le.bs _ | exact AV.le.sb _ | (exfalso; omega) | contradiction
theorem ansSendRLong {x : It} {mo lo : Int} {l junk : List It} (h : 65536 < x.t.size) : Answers Try.prog Γn 13 [.ptr 0 0, itV x] [netR 1 mo lo l.length, itB (l ++ junk)] (.v (.int .i64 2)) [some (netR 1 mo lo l.length), some (itB (l ++ junk))] [] :=
  answers (fn := Try.f13) (c := bodyOf Try.f13) (ntmps := 38) (results := [.tmp 4]) [] Lno false Try.func13 (by kernel_rfl) (by kernel_rfl) (by kernel_rfl) (by kernel_rfl) (by simp) rfl (noLoops (by kernel_rfl)) <| Meets.of (runSendR x mo lo l.length (l ++ junk)) <| by
    simp only [not_true_eq_false, not_false_eq_true, false_implies, true_implies, implies_true, Nat.blt_eq, owesN, owesX, owesR, Bool.not_eq_true', Bool.not_eq_false', Bool.and_eq_false_iff, sat_brT, sat_brF, sat_chkT, cl_iff, cl_false, AV.le_refl, AV.le_any, OLe_refl, OLe_none, Tree.sat_br, Tree.sat_chk, Tree.sat_leaf, Tree.sat_fail, Nat.zero_add, Nat.sub_zero, Int.toNat_natCast, LeH_cons, LeH_nil, LeL_cons, LeL_nil, and_true, true_and, Bool.and_eq_true, Bool.or_eq_true, Bool.or_eq_false_iff, decide_eq_true_eq, decide_eq_false_iff_not, Bool.cond_true_left, Bool.cond_false_right, List.cons_append, List.nil_append, List.map_cons, List.map_nil, List.append_nil]
    repeat' (first | apply And.intro | intro _hc)
    all_goals first | omega | exact AV.le_refl _ | exact OLe.refl _ | exact LeH.refl _ | exact LeL.refl _ | exact AV.le.bs _ | exact AV.le.sb _ | (exfalso; omega) | contradiction
theorem ansSendRFull {x : It} {mo lo : Int} {l junk : List It} (h : x.t.size ≤ 65536) (h2 : mo ≤ (l.length : Int)) (h0 : 0 ≤ lo) (h1 : lo ≤ 1000000000) : Answers Try.prog Γn 13 [.ptr 0 0, itV x] [netR 1 mo lo l.length, itB (l ++ junk)] (.v (.int .i64 101)) [some (netR 1 mo (lo + 1) l.length), some (itB (l ++ junk))] [] :=
  answers (fn := Try.f13) (c := bodyOf Try.f13) (ntmps := 38) (results := [.tmp 4]) [] Lno false Try.func13 (by kernel_rfl) (by kernel_rfl) (by kernel_rfl) (by kernel_rfl) (by simp) rfl (noLoops (by kernel_rfl)) <| Meets.of (runSendR x mo lo l.length (l ++ junk)) <| by
    simp only [not_true_eq_false, not_false_eq_true, false_implies, true_implies, implies_true, Nat.blt_eq, owesN, owesX, owesR, Bool.not_eq_true', Bool.not_eq_false', Bool.and_eq_false_iff, sat_brT, sat_brF, sat_chkT, cl_iff, cl_false, AV.le_refl, AV.le_any, OLe_refl, OLe_none, Tree.sat_br, Tree.sat_chk, Tree.sat_leaf, Tree.sat_fail, Nat.zero_add, Nat.sub_zero, Int.toNat_natCast, LeH_cons, LeH_nil, LeL_cons, LeL_nil, and_true, true_and, Bool.and_eq_true, Bool.or_eq_true, Bool.or_eq_false_iff, decide_eq_true_eq, decide_eq_false_iff_not, Bool.cond_true_left, Bool.cond_false_right, List.cons_append, List.nil_append, List.map_cons, List.map_nil, List.append_nil, wrapUp h0 h1]
    repeat' (first | apply And.intro | intro _hc)
    all_goals first | omega | exact AV.le_refl _ | exact OLe.refl _ | exact LeH.refl _ | exact LeL.refl _ | exact AV.le.bs _ | exact AV.le.sb _ | (exfalso; omega) | contradiction
theorem ansSendROk {x : It} {mo lo : Int} {l junk : List It} (h : x.t.size ≤ 65536) (h2 : ¬ mo ≤ (l.length : Int)) (hs : l.length ≤ 999999999) : Answers Try.prog Γn 13 [.ptr 0 0, itV x] [netR 1 mo lo l.length, itB (l ++ junk)] (.v (.int .i64 0)) [some (netR 2 mo lo (l ++ [x]).length), some (itB (l ++ junk))] [itB (l ++ [x])] :=
  answers (fn := Try.f13) (c := bodyOf Try.f13) (ntmps := 38) (results := [.tmp 4]) [] Lno false Try.func13 (by kernel_rfl) (by kernel_rfl) (by kernel_rfl) (by kernel_rfl) (by simp) rfl (noLoops (by kernel_rfl)) <| Meets.of (runSendR x mo lo l.length (l ++ junk)) <| by
    simp only [not_true_eq_false, not_false_eq_true, false_implies, true_implies, implies_true, Nat.blt_eq, owesN, owesX, owesR, Bool.not_eq_true', Bool.not_eq_false', Bool.and_eq_false_iff, sat_brT, sat_brF, sat_chkT, cl_iff, cl_false, AV.le_refl, AV.le_any, OLe_refl, OLe_none, Tree.sat_br, Tree.sat_chk, Tree.sat_leaf, Tree.sat_fail, Nat.zero_add, Nat.sub_zero, Int.toNat_natCast, LeH_cons, LeH_nil, LeL_cons, LeL_nil, and_true, true_and, Bool.and_eq_true, Bool.or_eq_true, Bool.or_eq_false_iff, decide_eq_true_eq, decide_eq_false_iff_not, Bool.cond_true_left, Bool.cond_false_right, List.cons_append, List.nil_append, List.map_cons, List.map_nil, List.append_nil]
    repeat' (first | apply And.intro | intro _hc)
    all_goals first | omega | exact AV.le_refl _ | exact OLe.refl _ | exact LeH.refl _ | exact LeL.refl _ | exact AV.le.bs _ | exact AV.le.sb _ | exact room32 (by omega) | ((rw [List.length_append]; exact OLe.refl _)) | exact itCod.app2 l junk x default default rfl rfl | (exfalso; omega) | contradiction
theorem ansTakeRNo {i : Int} {mo lo : Int} {l junk : List It} (h : i < 0 ∨ (l.length : Int) ≤ i) : Answers Try.prog Γn 14 [.ptr 0 0, .v (.int .i64 i)] [netR 1 mo lo l.length, itB (l ++ junk)] (.tup [itV default, .v (.int .i64 240)]) [some (netR 1 mo lo l.length), some (itB (l ++ junk))] [] :=
  answers (fn := Try.f14) (c := bodyOf Try.f14) (ntmps := 46) (results := [.cell 4 45, .tmp 5]) [] Lno false Try.func14 (by kernel_rfl) (by kernel_rfl) (by kernel_rfl) (by kernel_rfl) (by simp) rfl (noLoops (by kernel_rfl)) <| Meets.of (runTakeR i mo lo l.length (l ++ junk)) <| by
    simp only [not_true_eq_false, not_false_eq_true, false_implies, true_implies, implies_true, Nat.blt_eq, owesN, owesX, owesR, Bool.not_eq_true', Bool.not_eq_false', Bool.and_eq_false_iff, sat_brT, sat_brF, sat_chkT, cl_iff, cl_false, AV.le_refl, AV.le_any, OLe_refl, OLe_none, Tree.sat_br, Tree.sat_chk, Tree.sat_leaf, Tree.sat_fail, Nat.zero_add, Nat.sub_zero, Int.toNat_natCast, LeH_cons, LeH_nil, LeL_cons, LeL_nil, and_true, true_and, Bool.and_eq_true, Bool.or_eq_true, Bool.or_eq_false_iff, decide_eq_true_eq, decide_eq_false_iff_not, Bool.cond_true_left, Bool.cond_false_right, List.cons_append, List.nil_append, List.map_cons, List.map_nil, List.append_nil]
    repeat' (first | apply And.intro | intro _hc)
    all_goals first | omega | exact AV.le_refl _ | exact OLe.refl _ | exact LeH.refl _ | exact LeL.refl _ | exact AV.le.bs _ | exact AV.le.sb _ | (exfalso; omega) | contradiction
theorem ansTakeR {i : Nat} {mo lo : Int} {l junk : List It} (h : i < l.length) (hs : l.length ≤ 999999999) : Answers Try.prog Γn 14 [.ptr 0 0, .v (.int .i64 (i : Int))] [netR 1 mo lo l.length, itB (l ++ junk)] (.tup [itV (l.getD i default), .v (.int .i64 0)]) [some (netR 2 mo lo (l.eraseIdx i).length), some (itB (l ++ junk))] [itB (l.eraseIdx i)] :=
  answers (fn := Try.f14) (c := bodyOf Try.f14) (ntmps := 46) (results := [.cell 4 45, .tmp 5]) [] Lno false Try.func14 (by kernel_rfl) (by kernel_rfl) (by kernel_rfl) (by kernel_rfl) (by simp) rfl (noLoops (by kernel_rfl)) <| Meets.of (runTakeR i mo lo l.length (l ++ junk)) <| by
    have hle : (l.eraseIdx i).length = l.length - 1 := List.length_eraseIdx_of_lt h
    simp only [not_true_eq_false, not_false_eq_true, false_implies, true_implies, implies_true, Nat.blt_eq, owesN, owesX, owesR, Bool.not_eq_true', Bool.not_eq_false', Bool.and_eq_false_iff, sat_brT, sat_brF, sat_chkT, cl_iff, cl_false, AV.le_refl, AV.le_any, OLe_refl, OLe_none, Tree.sat_br, Tree.sat_chk, Tree.sat_leaf, Tree.sat_fail, Nat.zero_add, Nat.sub_zero, Int.toNat_natCast, LeH_cons, LeH_nil, LeL_cons, LeL_nil, and_true, true_and, Bool.and_eq_true, Bool.or_eq_true, Bool.or_eq_false_iff, decide_eq_true_eq, decide_eq_false_iff_not, Bool.cond_true_left, Bool.cond_false_right, List.cons_append, List.nil_append, List.map_cons, List.map_nil, List.append_nil, wrapUpN (show i ≤ 1000000000 by omega), getD_app h, hle]
    repeat' (first | apply And.intro | intro _hc)
    all_goals first | omega | exact AV.le_refl _ | exact OLe.refl _ | exact LeH.refl _ | exact LeL.refl _ | exact AV.le.bs _ | exact AV.le.sb _ | exact room32 (by omega) | ((rw [show i + (l.length - (i + 1)) = l.length - 1 by omega]; exact OLe.refl _)) | exact itCod.del2 l junk default h (by omega) | (exfalso; omega) | contradiction
noncomputable def c13 : CT Try.prog Γn := CT.auto false 100 3 [] 13 Try.f13 (bodyOf Try.f13) false 38 [.tmp 4] Try.func13 (by kernel_rfl) (by kernel_rfl) (by kernel_rfl) (by kernel_rfl)
theorem runDblR (i : Int) (mo lo : Int) (n : Nat) (L : List It) : bodyE (P := Try.prog) (Γ := Γn) [c13] Lno false 25 [.tmp 4] (bodyOf Try.f16) [.ptr 0 0, .v (.int .i64 i)] [netR 1 mo lo n, itB L] =
  Tree.br (bif decide (i < (0 : Int)) then true else decide ((↑n : Int) ≤ i))
  (Tree.leaf
    (Ans.mk (AV.v (Value.int IntKind.i64 (240 : Int)))
      [some (Blk.row [AV.v (Value.int IntKind.i64 mo), AV.v (Value.int IntKind.i64 lo), AV.hs (1 : Nat) (0 : Nat) n]),
        some (Blk.arr (3 : Nat) (List.length L) (lsF It.c L))]))
  (Tree.chk (decide ((0 : Int) ≤ i) && decide (i < (↑n : Int)))
    (Tree.br (decide ((65536 : Int) < (↑(ByteArray.size (List.getD L ((0 : Nat) + Int.toNat i) default).t) : Int)))
      (Tree.leaf
        (Ans.mk (AV.v (Value.int IntKind.i64 (2 : Int)))
          [some
              (Blk.row [AV.v (Value.int IntKind.i64 mo), AV.v (Value.int IntKind.i64 lo), AV.hs (1 : Nat) (0 : Nat) n]),
            some (Blk.arr (3 : Nat) (List.length L) (lsF It.c L))]))
      (Tree.br (decide (mo ≤ (↑n : Int)))
        (Tree.leaf
          (Ans.mk (AV.v (Value.int IntKind.i64 (101 : Int)))
            [some
                (Blk.row
                  [AV.v (Value.int IntKind.i64 mo),
                    AV.v (Value.int IntKind.i64 (IntKind.wrap IntKind.i64 (lo + (1 : Int)))),
                    AV.hs (1 : Nat) (0 : Nat) n]),
              some (Blk.arr (3 : Nat) (List.length L) (lsF It.c L))]))
        (Tree.chk (roomOk (32 : Nat) ((0 : Nat) + n))
          (Tree.chk (roomOk (32 : Nat) ((0 : Nat) + n + (1 : Nat)))
            (Tree.leaf
              (Ans.mk (AV.v (Value.int IntKind.i64 (0 : Int)))
                [some
                    (Blk.row
                      [AV.v (Value.int IntKind.i64 mo), AV.v (Value.int IntKind.i64 lo),
                        AV.hs (2 : Nat) (0 : Nat) ((0 : Nat) + n + (1 : Nat))]),
                  some (Blk.arr (3 : Nat) (List.length L) (lsF It.c L)),
                  some
                    (Blk.arr (3 : Nat) ((0 : Nat) + n + (1 : Nat)) fun j =>
                      mixL (decide (j < (0 : Nat) + n))
                        (mixL (decide ((0 : Nat) + j < (0 : Nat)))
                          (chain
                            [AV.v (Value.int IntKind.i64 (0 : Int)), AV.v (Value.int IntKind.i64 (0 : Int)),
                              AV.v (Value.string (ByteArray.mk #[]))]
                            (0 : Nat) [] ((0 : Nat) + ((0 : Nat) + j)))
                          (lsF It.c L ((0 : Nat) + ((0 : Nat) + j))))
                        (chain
                          [AV.v (Value.int IntKind.i64 (0 : Int)), AV.v (Value.int IntKind.i64 (0 : Int)),
                            AV.v (Value.string (ByteArray.mk #[]))]
                          (0 : Nat)
                          [[AV.v (Value.int IntKind.i64 (List.getD L ((0 : Nat) + Int.toNat i) default).a),
                              AV.v (Value.int IntKind.i64 (List.getD L ((0 : Nat) + Int.toNat i) default).b),
                              AV.v (Value.string (List.getD L ((0 : Nat) + Int.toNat i) default).t)]]
                          ((0 : Nat) + (j - ((0 : Nat) + n)))))]))))))) := by kernel_rfl
theorem ansDblRNo {i : Int} {mo lo : Int} {l junk : List It} (h : i < 0 ∨ (l.length : Int) ≤ i) : Answers Try.prog Γn 16 [.ptr 0 0, .v (.int .i64 i)] [netR 1 mo lo l.length, itB (l ++ junk)] (.v (.int .i64 240)) [some (netR 1 mo lo l.length), some (itB (l ++ junk))] [] :=
  answers (fn := Try.f16) (c := bodyOf Try.f16) (ntmps := 25) (results := [.tmp 4]) [c13] Lno false Try.func16 (by kernel_rfl) (by kernel_rfl) (by kernel_rfl) (by kernel_rfl) (by simp) rfl (noLoops (by kernel_rfl)) <| Meets.of (runDblR i mo lo l.length (l ++ junk)) <| by
    simp only [not_true_eq_false, not_false_eq_true, false_implies, true_implies, implies_true, Nat.blt_eq, owesN, owesX, owesR, Bool.not_eq_true', Bool.not_eq_false', Bool.and_eq_false_iff, sat_brT, sat_brF, sat_chkT, cl_iff, cl_false, AV.le_refl, AV.le_any, OLe_refl, OLe_none, Tree.sat_br, Tree.sat_chk, Tree.sat_leaf, Tree.sat_fail, Nat.zero_add, Nat.sub_zero, Int.toNat_natCast, LeH_cons, LeH_nil, LeL_cons, LeL_nil, and_true, true_and, Bool.and_eq_true, Bool.or_eq_true, Bool.or_eq_false_iff, decide_eq_true_eq, decide_eq_false_iff_not, Bool.cond_true_left, Bool.cond_false_right, List.cons_append, List.nil_append, List.map_cons, List.map_nil, List.append_nil]
    repeat' (first | apply And.intro | intro _hc)
    all_goals first | omega | exact AV.le_refl _ | exact OLe.refl _ | exact LeH.refl _ | exact LeL.refl _ | exact AV.le.bs _ | exact AV.le.sb _ | (exfalso; omega) | contradiction
theorem ansDblRFull {i : Nat} {mo lo : Int} {l junk : List It} (h : i < l.length) (ht : (l.getD i default).t.size ≤ 65536) (h2 : mo ≤ (l.length : Int)) (h0 : 0 ≤ lo) (h1 : lo ≤ 1000000000) : Answers Try.prog Γn 16 [.ptr 0 0, .v (.int .i64 (i : Int))] [netR 1 mo lo l.length, itB (l ++ junk)] (.v (.int .i64 101)) [some (netR 1 mo (lo + 1) l.length), some (itB (l ++ junk))] [] :=
  answers (fn := Try.f16) (c := bodyOf Try.f16) (ntmps := 25) (results := [.tmp 4]) [c13] Lno false Try.func16 (by kernel_rfl) (by kernel_rfl) (by kernel_rfl) (by kernel_rfl) (by simp) rfl (noLoops (by kernel_rfl)) <| Meets.of (runDblR i mo lo l.length (l ++ junk)) <| by
    simp only [not_true_eq_false, not_false_eq_true, false_implies, true_implies, implies_true, Nat.blt_eq, owesN, owesX, owesR, Bool.not_eq_true', Bool.not_eq_false', Bool.and_eq_false_iff, sat_brT, sat_brF, sat_chkT, cl_iff, cl_false, AV.le_refl, AV.le_any, OLe_refl, OLe_none, Tree.sat_br, Tree.sat_chk, Tree.sat_leaf, Tree.sat_fail, Nat.zero_add, Nat.sub_zero, Int.toNat_natCast, LeH_cons, LeH_nil, LeL_cons, LeL_nil, and_true, true_and, Bool.and_eq_true, Bool.or_eq_true, Bool.or_eq_false_iff, decide_eq_true_eq, decide_eq_false_iff_not, Bool.cond_true_left, Bool.cond_false_right, List.cons_append, List.nil_append, List.map_cons, List.map_nil, List.append_nil, wrapUp h0 h1, getD_app h]
    repeat' (first | apply And.intro | intro _hc)
    all_goals first | omega | exact AV.le_refl _ | exact OLe.refl _ | exact LeH.refl _ | exact LeL.refl _ | exact AV.le.bs _ | exact AV.le.sb _ | (exfalso; omega) | contradiction
theorem ansDblROk {i : Nat} {mo lo : Int} {l junk : List It} (h : i < l.length) (ht : (l.getD i default).t.size ≤ 65536) (h2 : ¬ mo ≤ (l.length : Int)) (hs : l.length ≤ 999999999) : Answers Try.prog Γn 16 [.ptr 0 0, .v (.int .i64 (i : Int))] [netR 1 mo lo l.length, itB (l ++ junk)] (.v (.int .i64 0)) [some (netR 2 mo lo (l ++ [l.getD i default]).length), some (itB (l ++ junk))] [itB (l ++ [l.getD i default])] :=
  answers (fn := Try.f16) (c := bodyOf Try.f16) (ntmps := 25) (results := [.tmp 4]) [c13] Lno false Try.func16 (by kernel_rfl) (by kernel_rfl) (by kernel_rfl) (by kernel_rfl) (by simp) rfl (noLoops (by kernel_rfl)) <| Meets.of (runDblR i mo lo l.length (l ++ junk)) <| by
    simp only [not_true_eq_false, not_false_eq_true, false_implies, true_implies, implies_true, Nat.blt_eq, owesN, owesX, owesR, Bool.not_eq_true', Bool.not_eq_false', Bool.and_eq_false_iff, sat_brT, sat_brF, sat_chkT, cl_iff, cl_false, AV.le_refl, AV.le_any, OLe_refl, OLe_none, Tree.sat_br, Tree.sat_chk, Tree.sat_leaf, Tree.sat_fail, Nat.zero_add, Nat.sub_zero, Int.toNat_natCast, LeH_cons, LeH_nil, LeL_cons, LeL_nil, and_true, true_and, Bool.and_eq_true, Bool.or_eq_true, Bool.or_eq_false_iff, decide_eq_true_eq, decide_eq_false_iff_not, Bool.cond_true_left, Bool.cond_false_right, List.cons_append, List.nil_append, List.map_cons, List.map_nil, List.append_nil, getD_app h]
    repeat' (first | apply And.intro | intro _hc)
    all_goals first | omega | exact AV.le_refl _ | exact OLe.refl _ | exact LeH.refl _ | exact LeL.refl _ | exact AV.le.bs _ | exact AV.le.sb _ | exact room32 (by omega) | ((rw [List.length_append]; exact OLe.refl _)) | exact itCod.app2 l junk _ default default rfl rfl | (exfalso; omega) | contradiction
end Go.Eng.N

/- net: what a net shows is what the document's shows. -/
namespace Go.Eng.N
open Go Go.Eng Go.Proofs
set_option linter.unusedSimpArgs false
set_option linter.unusedVariables false
noncomputable abbrev lp18 : Code := loopOf (bodyOf Try.f18) 0
def H18 (mo lo mo' lo' : Int) (l j j' : List It) : List Blk := [netR 1 mo lo l.length, itB (l ++ j), netR 3 mo' lo' l.length, itB (l ++ j')]
theorem round18 (i : Nat) (mo lo mo' lo' : Int) (l j j' : List It) : roundE (P := Try.prog) (Γ := Γn) [] Lno false 4 0 lp18 [1, 5, 6, 4] [] 54 [.ptr 2 0, .hs 4 0 l.length, .v (.int .i64 (i : Int)), .any] ((H18 mo lo mo' lo' l j j').map some ++ [some (itB l)]) =
  Tree.br (decide ((↑i : Int) < (↑(List.length l) : Int)))
  (Tree.chk
    (decide ((0 : Int) ≤ (↑i : Int)) && decide ((↑i : Int) < (↑(List.length l) : Int)) &&
      (decide ((0 : Int) ≤ (↑i : Int)) && decide ((↑i : Int) < (↑(List.length l) : Int))))
    (Tree.br
      (!(decide
            ((List.getD l ((0 : Nat) + Int.toNat (↑i : Int)) default).a =
              (List.getD (l ++ j') ((0 : Nat) + Int.toNat (↑i : Int)) default).a) &&
          (decide
              ((List.getD l ((0 : Nat) + Int.toNat (↑i : Int)) default).b =
                (List.getD (l ++ j') ((0 : Nat) + Int.toNat (↑i : Int)) default).b) &&
            decide
              ((List.getD l ((0 : Nat) + Int.toNat (↑i : Int)) default).t =
                (List.getD (l ++ j') ((0 : Nat) + Int.toNat (↑i : Int)) default).t))))
      (Tree.leaf
        (Out.mk AEx.ret
          [AV.ptr (2 : Nat) (0 : Nat), AV.hs (4 : Nat) (0 : Nat) (List.length l),
            AV.v (Value.int IntKind.i64 (↑i : Int)), AV.v (Value.bool false)]
          [some
              (Blk.row
                [AV.v (Value.int IntKind.i64 mo), AV.v (Value.int IntKind.i64 lo),
                  AV.hs (1 : Nat) (0 : Nat) (List.length l)]),
            some (Blk.arr (3 : Nat) (List.length (l ++ j)) (lsF It.c (l ++ j))),
            some
              (Blk.row
                [AV.v (Value.int IntKind.i64 mo'), AV.v (Value.int IntKind.i64 lo'),
                  AV.hs (3 : Nat) (0 : Nat) (List.length l)]),
            some (Blk.arr (3 : Nat) (List.length (l ++ j')) (lsF It.c (l ++ j'))),
            some (Blk.arr (3 : Nat) (List.length l) (lsF It.c l))]))
      (Tree.leaf
        (Out.mk AEx.normal
          [AV.ptr (2 : Nat) (0 : Nat), AV.hs (4 : Nat) (0 : Nat) (List.length l),
            AV.v (Value.int IntKind.i64 (IntKind.wrap IntKind.i64 ((↑i : Int) + (1 : Int)))), AV.any]
          [some
              (Blk.row
                [AV.v (Value.int IntKind.i64 mo), AV.v (Value.int IntKind.i64 lo),
                  AV.hs (1 : Nat) (0 : Nat) (List.length l)]),
            some (Blk.arr (3 : Nat) (List.length (l ++ j)) (lsF It.c (l ++ j))),
            some
              (Blk.row
                [AV.v (Value.int IntKind.i64 mo'), AV.v (Value.int IntKind.i64 lo'),
                  AV.hs (3 : Nat) (0 : Nat) (List.length l)]),
            some (Blk.arr (3 : Nat) (List.length (l ++ j')) (lsF It.c (l ++ j'))),
            some (Blk.arr (3 : Nat) (List.length l) (lsF It.c l))]))))
  (Tree.leaf
    (Out.mk (AEx.exit (0 : Nat))
      [AV.ptr (2 : Nat) (0 : Nat), AV.hs (4 : Nat) (0 : Nat) (List.length l), AV.v (Value.int IntKind.i64 (↑i : Int)),
        AV.any]
      [some
          (Blk.row
            [AV.v (Value.int IntKind.i64 mo), AV.v (Value.int IntKind.i64 lo),
              AV.hs (1 : Nat) (0 : Nat) (List.length l)]),
        some (Blk.arr (3 : Nat) (List.length (l ++ j)) (lsF It.c (l ++ j))),
        some
          (Blk.row
            [AV.v (Value.int IntKind.i64 mo'), AV.v (Value.int IntKind.i64 lo'),
              AV.hs (3 : Nat) (0 : Nat) (List.length l)]),
        some (Blk.arr (3 : Nat) (List.length (l ++ j')) (lsF It.c (l ++ j'))),
        some (Blk.arr (3 : Nat) (List.length l) (lsF It.c l))])) := by kernel_rfl
def S18 (mo lo mo' lo' : Int) (l j j' : List It) (i : Nat) : List AV × Heap := ([.ptr 2 0, .hs 4 0 l.length, .v (.int .i64 (i : Int)), .any], (H18 mo lo mo' lo' l j j').map some ++ [some (itB l)])
def O18 (mo lo mo' lo' : Int) (l j j' : List It) : Out := ⟨.exit 0, (S18 mo lo mo' lo' l j j' l.length).1, (S18 mo lo mo' lo' l j j' l.length).2⟩
theorem loop18 {mo lo mo' lo' : Int} {l j j' : List It} (hs : l.length ≤ 100000000) : ∀ i, i ≤ l.length → LoopOK Try.prog Γn 4 54 lp18 (LSpec.at [1, 5, 6, 4] [] (S18 mo lo mo' lo' l j j' i) (O18 mo lo mo' lo' l j j')) := by
  refine loop_at (S := S18 mo lo mo' lo' l j j') (O := fun _ => O18 mo lo mo' lo' l j j') (k := 0) (fun i => l.length - i) fun i hp => .of (noLoops (by kernel_rfl)) (round18 i mo lo mo' lo' l j j') ?_
  by_cases hi : i < l.length
  · simp only [not_true_eq_false, not_false_eq_true, false_implies, true_implies, implies_true, Nat.blt_eq, owesN, owesX, owesR, Bool.not_eq_true', Bool.not_eq_false', Bool.and_eq_false_iff, sat_brT, sat_brF, sat_chkT, cl_iff, cl_false, AV.le_refl, AV.le_any, OLe_refl, OLe_none, Tree.sat_br, Tree.sat_chk, Tree.sat_leaf, Tree.sat_fail, Nat.zero_add, Nat.sub_zero, Int.toNat_natCast, LeH_cons, LeH_nil, LeL_cons, LeL_nil, and_true, true_and, Bool.and_eq_true, Bool.or_eq_true, Bool.or_eq_false_iff, decide_eq_true_eq, decide_eq_false_iff_not, Bool.cond_true_left, Bool.cond_false_right, List.cons_append, List.nil_append, List.map_cons, List.map_nil, List.append_nil, getD_app hi, wrapUpN (show i ≤ 1000000000 by omega)]
    repeat' (first | apply And.intro | intro _hc)
    all_goals first | omega | exact AV.le_refl _ | exact OLe.refl _ | exact LeH.refl _ | exact LeL.refl _ | exact AV.le.bs _ | exact AV.le.sb _ | exact ⟨i + 1, LeL.refl _, LeH.refl _, hi, by omega⟩ | (exfalso; omega) | contradiction
  · obtain rfl : i = l.length := by omega
    simp only [not_true_eq_false, not_false_eq_true, false_implies, true_implies, implies_true, Nat.blt_eq, owesN, owesX, owesR, Bool.not_eq_true', Bool.not_eq_false', Bool.and_eq_false_iff, sat_brT, sat_brF, sat_chkT, cl_iff, cl_false, AV.le_refl, AV.le_any, OLe_refl, OLe_none, Tree.sat_br, Tree.sat_chk, Tree.sat_leaf, Tree.sat_fail, Nat.zero_add, Nat.sub_zero, Int.toNat_natCast, LeH_cons, LeH_nil, LeL_cons, LeL_nil, and_true, true_and, Bool.and_eq_true, Bool.or_eq_true, Bool.or_eq_false_iff, decide_eq_true_eq, decide_eq_false_iff_not, Bool.cond_true_left, Bool.cond_false_right, List.cons_append, List.nil_append, List.map_cons, List.map_nil, List.append_nil]
    repeat' (first | apply And.intro | intro _hc)
    all_goals first | omega | exact AV.le_refl _ | exact OLe.refl _ | exact LeH.refl _ | exact LeL.refl _ | exact AV.le.bs _ | exact AV.le.sb _ | exact rfl | (exfalso; omega) | contradiction
theorem runShows (mo lo mo' lo' : Int) (l j j' : List It) (hs : l.length ≤ 1000000000) : bodyE (P := Try.prog) (Γ := Γn) [CT.at 12 (ansItems (mo := mo) (lo := lo) (l := l) (junk := j) hs), S.c10, S.c19] (fun _ => LSpec.at [1, 5, 6, 4] [] (S18 mo lo mo' lo' l j j' 0) (O18 mo lo mo' lo' l j j')) false 54 [.tmp 4] (bodyOf Try.f18) [.ptr 0 0, .ptr 2 0] (H18 mo lo mo' lo' l j j') =
  Tree.chk
  (cl
    (LeL [AV.ptr (0 : Nat) (0 : Nat)] [AV.ptr (0 : Nat) (0 : Nat)] ∧
      LeH
        [some
            (Blk.row
              [AV.v (Value.int IntKind.i64 mo), AV.v (Value.int IntKind.i64 lo),
                AV.hs (1 : Nat) (0 : Nat) (List.length l)]),
          some (Blk.arr (3 : Nat) (List.length (l ++ j)) (lsF It.c (l ++ j)))]
        [some
            (Blk.row
              [AV.v (Value.int IntKind.i64 mo), AV.v (Value.int IntKind.i64 lo),
                AV.hs (1 : Nat) (0 : Nat) (List.length l)]),
          some (Blk.arr (3 : Nat) (List.length (l ++ j)) (lsF It.c (l ++ j)))]))
  (Tree.br (!decide ((↑(List.length l) : Int) = (↑(List.length l) : Int)))
    (Tree.leaf
      (Ans.mk (AV.v (Value.bool false))
        [some
            (Blk.row
              [AV.v (Value.int IntKind.i64 mo), AV.v (Value.int IntKind.i64 lo),
                AV.hs (1 : Nat) (0 : Nat) (List.length l)]),
          some (Blk.arr (3 : Nat) (List.length (l ++ j)) (lsF It.c (l ++ j))),
          some
            (Blk.row
              [AV.v (Value.int IntKind.i64 mo'), AV.v (Value.int IntKind.i64 lo'),
                AV.hs (3 : Nat) (0 : Nat) (List.length l)]),
          some (Blk.arr (3 : Nat) (List.length (l ++ j')) (lsF It.c (l ++ j')))]))
    (Tree.br (!decide ((↑(List.length l) : Int) = (↑(List.length l) : Int)))
      (Tree.leaf
        (Ans.mk (AV.v (Value.bool false))
          [some
              (Blk.row
                [AV.v (Value.int IntKind.i64 mo), AV.v (Value.int IntKind.i64 lo),
                  AV.hs (1 : Nat) (0 : Nat) (List.length l)]),
            some (Blk.arr (3 : Nat) (List.length (l ++ j)) (lsF It.c (l ++ j))),
            some
              (Blk.row
                [AV.v (Value.int IntKind.i64 mo'), AV.v (Value.int IntKind.i64 lo'),
                  AV.hs (3 : Nat) (0 : Nat) (List.length l)]),
            some (Blk.arr (3 : Nat) (List.length (l ++ j')) (lsF It.c (l ++ j')))]))
      (Tree.br (!decide (lo = lo'))
        (Tree.leaf
          (Ans.mk (AV.v (Value.bool false))
            [some
                (Blk.row
                  [AV.v (Value.int IntKind.i64 mo), AV.v (Value.int IntKind.i64 lo),
                    AV.hs (1 : Nat) (0 : Nat) (List.length l)]),
              some (Blk.arr (3 : Nat) (List.length (l ++ j)) (lsF It.c (l ++ j))),
              some
                (Blk.row
                  [AV.v (Value.int IntKind.i64 mo'), AV.v (Value.int IntKind.i64 lo'),
                    AV.hs (3 : Nat) (0 : Nat) (List.length l)]),
              some (Blk.arr (3 : Nat) (List.length (l ++ j')) (lsF It.c (l ++ j')))]))
        (Tree.chk
          (cl
            (LeL
                [AV.ptr (2 : Nat) (0 : Nat), AV.hs (4 : Nat) (0 : Nat) (List.length l),
                  AV.v (Value.int IntKind.i64 (0 : Int)), AV.v (Value.bool false)]
                [AV.ptr (2 : Nat) (0 : Nat), AV.hs (4 : Nat) (0 : Nat) (List.length l),
                  AV.v (Value.int IntKind.i64 (↑(0 : Nat) : Int)), AV.any] ∧
              LeH
                [some
                    (Blk.row
                      [AV.v (Value.int IntKind.i64 mo), AV.v (Value.int IntKind.i64 lo),
                        AV.hs (1 : Nat) (0 : Nat) (List.length l)]),
                  some (Blk.arr (3 : Nat) (List.length (l ++ j)) (lsF It.c (l ++ j))),
                  some
                    (Blk.row
                      [AV.v (Value.int IntKind.i64 mo'), AV.v (Value.int IntKind.i64 lo'),
                        AV.hs (3 : Nat) (0 : Nat) (List.length l)]),
                  some (Blk.arr (3 : Nat) (List.length (l ++ j')) (lsF It.c (l ++ j'))),
                  some (Blk.arr (3 : Nat) (List.length l) (lsF It.c l))]
                [some
                    (Blk.row
                      [AV.v (Value.int IntKind.i64 mo), AV.v (Value.int IntKind.i64 lo),
                        AV.hs (1 : Nat) (0 : Nat) (List.length l)]),
                  some (Blk.arr (3 : Nat) (List.length (l ++ j)) (lsF It.c (l ++ j))),
                  some
                    (Blk.row
                      [AV.v (Value.int IntKind.i64 mo'), AV.v (Value.int IntKind.i64 lo'),
                        AV.hs (3 : Nat) (0 : Nat) (List.length l)]),
                  some (Blk.arr (3 : Nat) (List.length (l ++ j')) (lsF It.c (l ++ j'))),
                  some (Blk.arr (3 : Nat) (List.length l) (lsF It.c l))]))
          (Tree.leaf
            (Ans.mk (AV.v (Value.bool true))
              [some
                  (Blk.row
                    [AV.v (Value.int IntKind.i64 mo), AV.v (Value.int IntKind.i64 lo),
                      AV.hs (1 : Nat) (0 : Nat) (List.length l)]),
                some (Blk.arr (3 : Nat) (List.length (l ++ j)) (lsF It.c (l ++ j))),
                some
                  (Blk.row
                    [AV.v (Value.int IntKind.i64 mo'), AV.v (Value.int IntKind.i64 lo'),
                      AV.hs (3 : Nat) (0 : Nat) (List.length l)]),
                some (Blk.arr (3 : Nat) (List.length (l ++ j')) (lsF It.c (l ++ j')))])))))) := by kernel_rfl
theorem ansShows {mo mo' lo : Int} {l j j' : List It} (hs : l.length ≤ 100000000) : Answers Try.prog Γn 18 [.ptr 0 0, .ptr 2 0] (H18 mo lo mo' lo l j j') (.sb true) ((H18 mo lo mo' lo l j j').map some) [] :=
  answers (fn := Try.f18) (c := bodyOf Try.f18) (ntmps := 54) (results := [.tmp 4]) [CT.at 12 (ansItems (mo := mo) (lo := lo) (l := l) (junk := j) (Nat.le_trans hs (by omega))), S.c10, S.c19] (fun _ => LSpec.at [1, 5, 6, 4] [] (S18 mo lo mo' lo l j j' 0) (O18 mo lo mo' lo l j j')) false Try.func18 (by kernel_rfl) (by kernel_rfl) (by kernel_rfl) (by kernel_rfl) (by simp) rfl (oneLoop rfl (loop18 hs 0 (Nat.zero_le _))) <| Meets.of (runShows mo lo mo' lo l j j' (Nat.le_trans hs (by omega))) <| by
    simp only [not_true_eq_false, not_false_eq_true, false_implies, true_implies, implies_true, Nat.blt_eq, owesN, owesX, owesR, Bool.not_eq_true', Bool.not_eq_false', Bool.and_eq_false_iff, sat_brT, sat_brF, sat_chkT, cl_iff, cl_false, AV.le_refl, AV.le_any, OLe_refl, OLe_none, Tree.sat_br, Tree.sat_chk, Tree.sat_leaf, Tree.sat_fail, Nat.zero_add, Nat.sub_zero, Int.toNat_natCast, LeH_cons, LeH_nil, LeL_cons, LeL_nil, and_true, true_and, Bool.and_eq_true, Bool.or_eq_true, Bool.or_eq_false_iff, decide_eq_true_eq, decide_eq_false_iff_not, Bool.cond_true_left, Bool.cond_false_right, List.cons_append, List.nil_append, List.map_cons, List.map_nil, List.append_nil]
    repeat' (first | apply And.intro | intro _hc)
    all_goals first | omega | exact AV.le_refl _ | exact OLe.refl _ | exact LeH.refl _ | exact LeL.refl _ | exact AV.le.bs _ | exact AV.le.sb _ | (exfalso; omega) | contradiction
end Go.Eng.N
