/- Summaries of functions of scalars and of structs of scalars and what follows it. -/
import Derived.Test.YtkgghcffchlolaaPart3
import Derived.KernelRfl
import Derived.RowKit
import Derived.Carry
/- Summaries of functions of scalars and of structs of scalars. -/
namespace Go.Eng
open Go
set_option linter.unusedSimpArgs false
set_option linter.unusedVariables false
/-- an argument: a scalar, or a struct of scalars -/
inductive Sh where
  | c (c : Cel)
  | a (l : List Cel)
/-- a cell as a value -/
def kcA : Cel → KC → AV
  | .int k, .i n => .v (.int k n)
  | .str, .s t => .v (.string t)
  | .bool, .b c => .sb c
  | _, _ => .any
def kcAs : List Cel → List KC → List AV
  | c :: cs, k :: ks => kcA c k :: kcAs cs ks
  | _, _ => []
/-- the cells of the arguments -/
def unSh : List Sh → List AV → Option (List KC)
  | [], [] => some []
  | .c c :: sh, x :: xs => match kcOf [c] [x], unSh sh xs with
    | some a, some b => some (a ++ b)
    | _, _ => none
  | .a l :: sh, .agg cs :: xs => match kcOf l cs, unSh sh xs with
    | some a, some b => some (a ++ b)
    | _, _ => none
  | _, _ => none
def toSh : List Sh → List KC → List AV
  | [], _ => []
  | .c c :: sh, l => (kcAs [c] (l.take 1)).headD .any :: toSh sh (l.drop 1)
  | .a cs :: sh, l => .agg (kcAs cs (l.take cs.length)) :: toSh sh (l.drop cs.length)
def shCels : List Sh → List Cel
  | [] => []
  | .c c :: sh => c :: shCels sh
  | .a l :: sh => l ++ shCels sh
theorem kFit_len : ∀ {cels : List Cel} {k : List KC}, kFit cels k = true → k.length = cels.length
  | [], [], _ => rfl
  | [], _ :: _, h => by simp [kFit] at h
  | _ :: _, [], h => by simp [kFit] at h
  | c :: cs, x :: k, h => by
    simp only [kFit, Bool.and_eq_true] at h
    simp [kFit_len h.2]
theorem kFit_append : ∀ {a b : List Cel} {k q : List KC}, kFit a k = true → kFit b q = true → kFit (a ++ b) (k ++ q) = true
  | [], _, [], _, _, h => h
  | [], _, _ :: _, _, h, _ => by simp [kFit] at h
  | _ :: _, _, [], _, h, _ => by simp [kFit] at h
  | c :: cs, _, x :: k, _, h, h' => by
    simp only [kFit, Bool.and_eq_true, List.cons_append] at h ⊢
    exact ⟨h.1, kFit_append h.2 h'⟩
section
variable {σ : Store} {φ : Places}
theorem kcAs_V : ∀ {cels : List Cel} {k : List KC}, kFit cels k = true → VL σ φ (kcAs cels k) (kVs cels k)
  | [], [], _ => ⟨rfl, fun j c y h => by simp [kcAs] at h⟩
  | [], _ :: _, h => by simp [kFit] at h
  | _ :: _, [], h => by simp [kFit] at h
  | c :: cs, x :: k, h => by
    simp only [kFit, Bool.and_eq_true] at h
    refine .one ?_ (kcAs_V h.2)
    cases c <;> cases x <;> simp [kcFit] at h <;> first | exact V_v _ | exact V_sb _
theorem unSh_ok : ∀ {sh : List Sh} {args : List AV} {l : List KC} {ys : List Value}, unSh sh args = some l → VL σ φ args ys → kFit (shCels sh) l = true ∧ VL σ φ (toSh sh l) ys := by
  intro sh
  induction sh with
  | nil =>
    intro args l ys h hv
    cases args with
    | nil => simp only [unSh, Option.some.injEq] at h; subst h; exact ⟨rfl, hv⟩
    | cons a xs1 => simp [unSh] at h
  | cons s sh ih =>
    intro args l ys h hv
    cases args with
    | nil => cases s <;> simp [unSh] at h
    | cons a xs1 =>
      cases ys with
      | nil => have := hv.1; simp at this
      | cons y ys =>
        have hx : V σ φ a y := hv.2 0 a y (by simp) (by simp)
        have hxs : VL σ φ xs1 ys := ⟨by have := hv.1; simpa using this, fun j c z hc hz => hv.2 (j + 1) c z (by simpa using hc) (by simpa using hz)⟩
        cases s with
        | c c =>
          simp only [unSh] at h
          split at h
          · rename_i p q hp hq
            simp only [Option.some.injEq] at h
            subst h
            obtain ⟨k1, k2⟩ := kcOf_ok (ys := [y]) hp (.one hx .none)
            obtain ⟨i1, i2⟩ := ih hq hxs
            have hl := kFit_len k1
            match p, hl with
            | [x], _ =>
              refine ⟨kFit_append (a := [c]) k1 i1, ?_⟩
              simp only [toSh, List.singleton_append, List.take_succ_cons, List.take_zero, List.drop_succ_cons, List.drop_zero]
              refine .one ?_ i2
              have := kcAs_V (σ := σ) (φ := φ) k1
              rw [← k2] at this
              exact this.2 0 _ y (by simp [kcAs]) rfl
          · simp at h
        | a cs =>
          cases a with
          | agg zs1 =>
            simp only [unSh] at h
            split at h
            · rename_i p q hp hq
              simp only [Option.some.injEq] at h
              subst h
              obtain ⟨zs, rfl, hl, hz⟩ := hx.agg_inv
              obtain ⟨k1, k2⟩ := kcOf_ok (ys := zs.toList) hp (VL_of_agg hl hz)
              obtain ⟨i1, i2⟩ := ih hq hxs
              have hlen := kFit_len k1
              refine ⟨kFit_append k1 i1, ?_⟩
              simp only [toSh]
              rw [← hlen, List.take_left, List.drop_left]
              refine .one ?_ i2
              have := kcAs_V (σ := σ) (φ := φ) k1
              rw [← k2] at this
              exact V_agg this
            · simp at h
          | _ => simp [unSh] at h
end
section
variable {P : Program} {Γ : Nat → AV}
theorem Contract.weak {f : FuncId} {args args' : List AV} {Hin : List Blk} {r : Res} (h : Contract P Γ f args' Hin r) (hv : ∀ (σ : Store) (φ : Places) (ys : List Value), VL σ φ args ys → VL σ φ args' ys) : Contract P Γ f args Hin r :=
  fun σ φ w vals hG hV => h σ φ w vals hG (hv σ φ vals.toList hV)
theorem toSh_len : ∀ (sh : List Sh) (l : List KC), (toSh sh l).length = sh.length
  | [], l => rfl
  | .c c :: sh, l => by simp only [toSh, List.length_cons, toSh_len sh]
  | .a cs :: sh, l => by simp only [toSh, List.length_cons, toSh_len sh]
/-- a summary of a function of scalars -/
def funSpec (sh : List Sh) (pre : List KC → Bool) (g : List KC → AV) (args : List AV) (Hin : List Blk) : Tree Res := match Hin with
  | [] => match unSh sh args with
    | some l => .chk (pre l) (.leaf { val := g l })
    | none => .fail
  | _ => .fail
def CT.fun (f : FuncId) (fn : Func) (c : Code) (T : List (CT P Γ)) (L : Nat → LSpec) (ip : Bool) (ntmps : Nat) (results : List ResultVar) (sh : List Sh) (pre : List KC → Bool) (g : List KC → AV) (hf : P.funcs[f]? = some fn) (hb : fn.body = some c) (hr : fn.results.toList = results)
    (hnt : fn.ntmps = ntmps) (hn : (fn.name == "runtime.NumGoroutine") = false) (hsz : sh.length ≤ ntmps) (hL : ∀ (j : Nat) (b : Code), (loopBodies c)[j]? = some b → LoopOK P Γ 0 ntmps b (L j))
    (hs : ∀ l, kFit (shCels sh) l = true → pre l = true → Gives (bodyE T L ip ntmps results c (toSh sh l) []) (g l)) : CT P Γ where
  f := f
  spec := funSpec sh pre g
  enters := callFunc_enters hf (by rw [hb]; rfl) hn
  ok := fun args Hin r h => by
    unfold funSpec at h
    split at h
    · split at h
      · rename_i l hl
        obtain ⟨hp, h⟩ := Tree.chk_get h
        obtain rfl := Tree.leaf_get h
        by_cases hfit : kFit (shCels sh) l = true
        · have hlen := toSh_len sh l
          subst hr; subst hnt
          exact (contract_of (T := T) (ip := ip) (Hin := []) (r := { val := g l }) hf hb L hL (by rw [hlen]; exact hsz) (hs l hfit hp).ok).weak fun σ φ ys hv => (unSh_ok hl hv).2
        · intro σ φ w vals hG hV
          exact absurd (unSh_ok hl hV).1 hfit
      · simp [Tree.get] at h
    · simp [Tree.get] at h
end
end Go.Eng

/- Small words for the proofs of summaries. -/
namespace Go.Eng
open Go
set_option linter.unusedSimpArgs false
set_option linter.unusedVariables false
theorem Gives.of {t t' : Tree Ans} {v : AV} (e : t = t') (h : t'.sat fun s => AV.le s.val v ∧ LeH s.H []) : Gives t v := ⟨e ▸ h⟩
theorem Right.of {t t' : Tree Ans} (e : t = t') (h : t'.sat fun s => AV.le s.val (.v (.bool true)) ∧ LeH s.H []) : Right t := ⟨e ▸ h⟩
theorem Meets.of {t t' : Tree Ans} {v : AV} {H : Heap} (e : t = t') (h : t'.sat fun s => AV.le s.val v ∧ LeH s.H H) : Meets t v H := ⟨e ▸ h⟩
theorem le_int {k k' : IntKind} {a b : Int} : AV.le (.v (.int k a)) (.v (.int k' b)) ↔ k = k' ∧ a = b := ⟨fun h => by cases h; exact ⟨rfl, rfl⟩, fun ⟨h1, h2⟩ => by rw [h1, h2]; exact .refl _⟩
theorem le_str {a b : ByteArray} : AV.le (.v (.string a)) (.v (.string b)) ↔ a = b := ⟨fun h => by cases h; rfl, fun h => by rw [h]; exact .refl _⟩
theorem le_sbsb {a b : Bool} : AV.le (.sb a) (.sb b) ↔ a = b := ⟨fun h => by cases h; rfl, fun h => by rw [h]; exact .refl _⟩
theorem le_vsb {a b : Bool} : AV.le (.v (.bool a)) (.sb b) ↔ a = b := ⟨fun h => by cases h; rfl, fun h => by rw [h]; exact .bs _⟩
theorem le_sbv {a b : Bool} : AV.le (.sb a) (.v (.bool b)) ↔ a = b := ⟨fun h => by cases h; rfl, fun h => by rw [h]; exact .sb _⟩
theorem le_vv {a b : Bool} : AV.le (.v (.bool a)) (.v (.bool b)) ↔ a = b := ⟨fun h => by cases h; rfl, fun h => by rw [h]; exact .refl _⟩
theorem le_tup {xs ys : List AV} (h : LeL xs ys) : AV.le (.tup xs) (.tup ys) := .tup h.len h.pt
theorem le_agg {xs ys : List AV} (h : LeL xs ys) : AV.le (.agg xs) (.agg ys) := .agg h.len h.pt
end Go.Eng

/- Summaries of loops and functions by what they begin with: a shape with parameters. -/
namespace Go.Eng
open Go
set_option linter.unusedSimpArgs false
set_option linter.unusedVariables false
section
variable {P : Program} {Γ : Nat → AV} {ip : Bool} {m : Nat} {T : List (CT P Γ)} {X : Type}
open Classical in
/-- a loop's summary: at the states S x it ends as O x tells -/
noncomputable def LSpec.by (live : List Nat) (nils : List (Nat × TypeId)) (ext : List AV → Heap → Option X) (S : X → List AV × Heap) (pre : X → Prop) (O : X → Tree Out) : LSpec :=
  ⟨live, nils, fun vals H => match ext vals H with
    | some x => .chk (decide ((vals, H) = S x)) (.chk (decide (pre x)) (O x))
    | none => .fail⟩
/-- what a round owes -/
def OwesX (S : X → List AV × Heap) (pre : X → Prop) (O : X → Tree Out) (μ : X → Nat) (n : Nat) (o r : Out) : Prop :=
  match r.ex with
  | .normal => ∃ x', LeL r.fr (S x').1 ∧ LeH r.H (S x').2 ∧ pre x' ∧ (O x').get = some o ∧ μ x' < n
  | _ => r.ex = o.ex ∧ LeL r.fr o.fr ∧ LeH r.H o.H
open Classical in
theorem loop_by {L : Nat → LSpec} {N k : Nat} {b : Code} {live : List Nat} {nils : List (Nat × TypeId)} {ext : List AV → Heap → Option X} {S : X → List AV × Heap} {pre : X → Prop} {O : X → Tree Out} (μ : X → Nat)
    (hL : ∀ (j : Nat) (b' : Code), (loopBodies b)[j]? = some b' → LoopOK P Γ m N b' (L (k + j)))
    (hr : ∀ x o, pre x → (O x).get = some o → (roundE T L ip m k b live nils N (S x).1 (S x).2).sat (OwesX S pre O μ (μ x) o)) : LoopOK P Γ m N b (LSpec.by live nils ext S pre O) := by
  -- at a state and an end: the least measure
  have key : ∀ o, LoopOK P Γ m N b ⟨live, nils, relSpec (fun vals H o => ∃ x, pre x ∧ (vals, H) = S x ∧ (O x).get = some o) o⟩ := fun o => by
    let Q : List AV → Heap → Nat → Prop := fun vals H n => ∃ x, pre x ∧ (vals, H) = S x ∧ (O x).get = some o ∧ μ x = n
    refine loop_ok (T := T) (ip := ip) (fun vals H => leastN (Q vals H)) hL fun vals H o' h => ?_
    obtain ⟨rfl, x0, h1, h2, h3⟩ := relSpec_get (Sp := fun vals H o => ∃ x, pre x ∧ (vals, H) = S x ∧ (O x).get = some o) (show (relSpec _ o vals H).get = some o' from h)
    obtain ⟨x, p1, p2, p3, p4⟩ := leastN_mem (p := Q vals H) ⟨μ x0, x0, h1, h2, h3, rfl⟩
    obtain ⟨r, r1, r2⟩ := Tree.sat_iff.1 (hr x o' p1 p3)
    have e1 : (S x).1 = vals := congrArg Prod.fst p2.symm
    have e2 : (S x).2 = H := congrArg Prod.snd p2.symm
    rw [e1, e2] at r1
    refine Tree.sat_iff.2 ⟨r, r1, ?_⟩
    unfold OwesX at r2
    unfold Owes
    cases hx : r.ex with
    | normal =>
      rw [hx] at r2
      obtain ⟨x', k1, k2, k3, k4, k5⟩ := r2
      refine ⟨(S x').1, (S x').2, k1, k2, relSpec_of (Sp := fun vals H o => ∃ x, pre x ∧ (vals, H) = S x ∧ (O x).get = some o) ⟨x', k3, rfl, k4⟩, ?_⟩
      refine Nat.lt_of_le_of_lt (leastN_le ⟨x', k3, rfl, k4, rfl⟩) ?_
      rw [← p4]; exact k5
    | exit i => rw [hx] at r2; exact r2
    | ret => rw [hx] at r2; exact r2
  intro vals H o h
  refine key o vals H o (show (relSpec (fun vals H o => ∃ x, pre x ∧ (vals, H) = S x ∧ (O x).get = some o) o vals H).get = some o from relSpec_of ?_)
  unfold LSpec.by at h
  simp only at h
  split at h
  · rename_i x hx
    obtain ⟨h1, h⟩ := Tree.chk_get h
    obtain ⟨h2, h⟩ := Tree.chk_get h
    exact ⟨x, of_decide_eq_true h2, of_decide_eq_true h1, h⟩
  · simp [Tree.get] at h
open Classical in
/-- a function's summary: called with A x it answers as O x tells -/
noncomputable def bySpec (ext : List AV → List Blk → Option X) (A : X → List AV × List Blk) (pre : X → Prop) (O : X → Tree Res) (args : List AV) (Hin : List Blk) : Tree Res :=
  match ext args Hin with
  | some x => .chk (decide ((args, Hin) = A x)) (.chk (decide (pre x)) (O x))
  | none => .fail
open Classical in
noncomputable def CT.by (f : FuncId) (fn : Func) (c : Code) (T : List (CT P Γ)) (L : X → Nat → LSpec) (ip : Bool) (ntmps : Nat) (results : List ResultVar) (ext : List AV → List Blk → Option X) (A : X → List AV × List Blk) (pre : X → Prop) (O : X → Tree Res)
    (hf : P.funcs[f]? = some fn) (hb : fn.body = some c) (hr : fn.results.toList = results)
    (hnt : fn.ntmps = ntmps) (hn : (fn.name == "runtime.NumGoroutine") = false)
    (hL : ∀ x, pre x → ∀ (j : Nat) (b : Code), (loopBodies c)[j]? = some b → LoopOK P Γ (A x).2.length ntmps b (L x j))
    (hs : ∀ x r, pre x → (O x).get = some r → (A x).1.length ≤ ntmps ∧ Meets (bodyE T (L x) ip ntmps results c (A x).1 (A x).2) r.val (r.heap (A x).2)) : CT P Γ where
  f := f
  spec := bySpec ext A pre O
  enters := callFunc_enters hf (by rw [hb]; rfl) hn
  ok := fun args Hin r h => by
    unfold bySpec at h
    split at h
    · rename_i x hx
      obtain ⟨h1, h⟩ := Tree.chk_get h
      obtain ⟨h2, h⟩ := Tree.chk_get h
      have h1 := decide_eq_true_iff.1 h1
      have h2 := decide_eq_true_iff.1 h2
      obtain ⟨k1, k2⟩ := hs x r h2 h
      obtain ⟨rfl, rfl⟩ : args = (A x).1 ∧ Hin = (A x).2 := by rw [← h1]; exact ⟨rfl, rfl⟩
      subst hr; subst hnt
      exact contract_of (T := T) (ip := ip) hf hb (L x) (hL x h2) k1 k2.ok
    · simp [Tree.get] at h
end
/-! ### bytes -/
/-- the cells of a text's bytes -/
def bsF (t : ByteArray) : Nat → List AV := fun j => [.v (.int .u8 (sbyte t j))]
theorem sbyte_range (t : ByteArray) (j : Nat) : 0 ≤ sbyte t j ∧ sbyte t j < 256 := by
  unfold sbyte
  have := (t.data[j]?.getD 0).toNat_lt
  omega
theorem allBytes_bsF (n : Nat) (t : ByteArray) : allBytes n (bsF t) = true := by
  unfold allBytes
  rw [List.all_eq_true]
  intro j _
  rfl
theorem textOf_bsF (t : ByteArray) : textOf t.size (bsF t) = t := by
  unfold textOf
  have : ((List.range t.size).map fun j => byteIn (bsF t j)) = t.data.toList := by
    refine List.ext_getElem? fun j => ?_
    simp only [List.getElem?_map, Array.getElem?_toList]
    rcases Nat.lt_or_ge j t.size with h | h
    · rw [List.getElem?_range h]
      have hd : t.data[j]? = some t.data[j] := by simp [show j < t.data.size from h]
      rw [hd]
      simp [bsF, byteIn, sbyte, hd]
    · rw [List.getElem?_eq_none (by simpa using h), Array.getElem?_eq_none (by simpa using h)]; rfl
  rw [this]
theorem textOf_bs {n : Nat} {t : ByteArray} (h : n = t.size) : textOf n (bsF t) = t := by rw [h, textOf_bsF]
end Go.Eng

/- Plain facts on bytes and on the bytes of numbers. -/
namespace Go.Eng
open Go
set_option linter.unusedSimpArgs false
set_option linter.unusedVariables false
theorem sbyte_append (a b : ByteArray) (j : Nat) : sbyte (a ++ b) j = if j < a.size then sbyte a j else sbyte b (j - a.size) := by
  unfold sbyte
  simp only [ByteArray.data_append, Array.getElem?_append]
  split
  · rename_i h; rw [if_pos (by simpa using h)]
  · rename_i h; rw [if_neg (by simpa using h)]; rfl
theorem or128 (a : Int) (h : 0 ≤ a) (h' : a < 256) : bitI .or .u8 a 128 = a % 128 + 128 := by
  obtain ⟨n, rfl⟩ := Int.eq_ofNat_of_zero_le h
  have : ∀ k : Fin 256, bitI .or .u8 ((k.val : Nat) : Int) 128 = ((k.val : Nat) : Int) % 128 + 128 := by decide +kernel
  exact this ⟨n, by omega⟩
theorem wrap64E {x : Int} : IntKind.i64.wrap x = (x + 9223372036854775808) % 18446744073709551616 - 9223372036854775808 := by
  simp [IntKind.wrap, IntKind.signed, IntKind.bits]
  omega
theorem wrapU8 {x : Int} : IntKind.u8.wrap x = x % 256 := by
  simp [IntKind.wrap, IntKind.signed, IntKind.bits]
theorem wrapU64 {x : Int} : IntKind.u64.wrap x = x % 18446744073709551616 := by
  simp [IntKind.wrap, IntKind.signed, IntKind.bits]
theorem wrapU32 {x : Int} : IntKind.u32.wrap x = x % 4294967296 := by
  simp [IntKind.wrap, IntKind.signed, IntKind.bits]
/-- one byte as a text -/
def oneB (n : Nat) : ByteArray := ⟨#[UInt8.ofNat n]⟩
@[simp] theorem oneB_size (n : Nat) : (oneB n).size = 1 := rfl
theorem sbyte_oneB {n : Nat} (h : n < 256) : sbyte (oneB n) 0 = (n : Int) := by
  show (((UInt8.ofNat n).toNat : Nat) : Int) = _
  simp
  omega
theorem sbyte_out {t : ByteArray} {j : Nat} (h : t.size ≤ j) : sbyte t j = 0 := by
  unfold sbyte
  rw [Array.getElem?_eq_none (by simpa using h)]; rfl
theorem bs_eq {a b : ByteArray} (hs : a.size = b.size) (h : ∀ j, j < a.size → sbyte a j = sbyte b j) : a = b := by
  have : a.data = b.data := by
    refine Array.ext hs fun i h1 h2 => ?_
    have := h i h1
    unfold sbyte at this
    simp only [Array.getElem?_eq_getElem h1, Array.getElem?_eq_getElem h2, Option.getD_some] at this
    exact UInt8.toNat_inj.1 (by omega)
  cases a; cases b; simp at this; rw [this]
/-- the higher digits of a number, each with its mark; what is left of it -/
def hiB (n : Nat) : ByteArray := if h : n < 128 then ⟨#[]⟩ else oneB (n % 128 + 128) ++ hiB (n / 128)
termination_by n
decreasing_by omega
def loN (n : Nat) : Nat := if h : n < 128 then n else loN (n / 128)
termination_by n
decreasing_by omega
/-- a number's bytes -/
def numB (n : Nat) : ByteArray := hiB n ++ oneB (loN n)
theorem hiB_lt {n : Nat} (h : n < 128) : hiB n = ⟨#[]⟩ := by rw [hiB, dif_pos h]
theorem hiB_ge {n : Nat} (h : ¬ n < 128) : hiB n = oneB (n % 128 + 128) ++ hiB (n / 128) := by rw [hiB, dif_neg h]
theorem loN_lt {n : Nat} (h : n < 128) : loN n = n := by rw [loN, dif_pos h]
theorem loN_ge {n : Nat} (h : ¬ n < 128) : loN n = loN (n / 128) := by rw [loN, dif_neg h]
theorem loN_small (n : Nat) : loN n < 128 := by
  induction n using Nat.strongRecOn with
  | _ n ih =>
    by_cases h : n < 128
    · rw [loN_lt h]; exact h
    · rw [loN_ge h]; exact ih _ (by omega)
theorem hiB_size (n : Nat) (k : Nat) (h : n < 128 ^ (k + 1)) : (hiB n).size ≤ k := by
  induction k generalizing n with
  | zero => rw [hiB_lt (by simpa using h)]; exact Nat.le_refl _
  | succ k ih =>
    by_cases hn : n < 128
    · rw [hiB_lt hn]; exact Nat.zero_le _
    · rw [hiB_ge hn]
      have := ih (n / 128) (by rw [Nat.div_lt_iff_lt_mul (by decide)]; rw [Nat.pow_succ] at h; exact h)
      simp only [ByteArray.size_append, oneB_size]; omega
theorem numB_size {n : Nat} (h : n ≤ 4611686018427387904) : (numB n).size ≤ 9 ∧ 1 ≤ (numB n).size := by
  unfold numB
  have := hiB_size n 8 (by omega)
  simp only [ByteArray.size_append, oneB_size]; omega
theorem append_empty (t : ByteArray) : t ++ (⟨#[]⟩ : ByteArray) = t := by
  apply bs_eq
  · simp
    rfl
  · intro j hj
    rw [sbyte_append]
    split
    · rfl
    · rename_i h
      have : (t ++ (⟨#[]⟩ : ByteArray)).size = t.size := by simp; rfl
      omega
theorem empty_append (t : ByteArray) : (⟨#[]⟩ : ByteArray) ++ t = t := by
  apply bs_eq
  · simp
    rfl
  · intro j hj
    rw [sbyte_append]
    split
    · rename_i h; exact absurd h (Nat.not_lt_zero _)
    · rfl
theorem push_eq {t : ByteArray} {v : Int} (h : 0 ≤ v) (h' : v < 256) {j : Nat} (hj : j < t.size + 1) :
    (bif decide (j < t.size) then sbyte t ((0 : Nat) + j) else bif ((0 : Nat) + (j - t.size)).beq (0 : Nat) then v else (0 : Int)) = sbyte (t ++ oneB v.toNat) j := by
  rw [sbyte_append]
  by_cases hl : j < t.size
  · rw [decide_eq_true hl, if_pos hl, Nat.zero_add]; rfl
  · obtain rfl : j = t.size := by omega
    rw [decide_eq_false hl, if_neg hl, Nat.sub_self, sbyte_oneB (by omega)]
    simp
    omega
theorem textOf_one (v : Int) : (textOf (1 : Nat) fun j => [AV.v (Value.int IntKind.u8 (bif ((0 : Nat) + j).beq (0 : Nat) then v else (0 : Int)))]) = oneB v.toNat := rfl
theorem tdiv_nat (n k : Nat) : (n : Int).tdiv (k : Int) = ((n / k : Nat) : Int) := by
  rw [Int.tdiv_eq_ediv_of_nonneg (by omega)]; rfl
theorem tmod_nat (n k : Nat) : (n : Int).tmod (k : Int) = ((n % k : Nat) : Int) := by
  rw [Int.tmod_eq_emod_of_nonneg (by omega)]; rfl
theorem bsF_len (t : ByteArray) (e : Nat) : (bsF t e).length = 1 := rfl
end Go.Eng

/- Summaries of loops and functions at one state, which may be told more exactly than the summary asks. -/
namespace Go.Eng
open Go
set_option linter.unusedSimpArgs false
set_option linter.unusedVariables false
/-- a statement as a test -/
noncomputable def cl (p : Prop) : Bool := @decide p (Classical.propDecidable p)
theorem cl_iff {p : Prop} : cl p = true ↔ p := by unfold cl; exact @decide_eq_true_iff p (Classical.propDecidable p)
section
variable {P : Program} {Γ : Nat → AV} {m : Nat} {X : Type}
/-- a loop's summary at one state -/
noncomputable def LSpec.at (live : List Nat) (nils : List (Nat × TypeId)) (s : List AV × Heap) (o : Out) : LSpec :=
  ⟨live, nils, fun vals H => .chk (cl (LeL vals s.1 ∧ LeH H s.2)) (.leaf o)⟩
/-- what a round owes -/
def OwesA (S : X → List AV × Heap) (pre : X → Prop) (O : X → Out) (μ : X → Nat) (n : Nat) (o r : Out) : Prop :=
  match r.ex with
  | .normal => ∃ x', LeL r.fr (S x').1 ∧ LeH r.H (S x').2 ∧ pre x' ∧ O x' = o ∧ μ x' < n
  | _ => r.ex = o.ex ∧ LeL r.fr o.fr ∧ LeH r.H o.H
/-- a round's proof, with the summaries that it uses -/
structure RoundOK (P : Program) (Γ : Nat → AV) (m N k : Nat) (b : Code) (live : List Nat) (nils : List (Nat × TypeId)) (s : List AV × Heap) (Q : Out → Prop) : Prop where
  ok : ∃ (T : List (CT P Γ)) (L : Nat → LSpec) (ip : Bool), (∀ (j : Nat) (b' : Code), (loopBodies b)[j]? = some b' → LoopOK P Γ m N b' (L (k + j))) ∧ (roundE T L ip m k b live nils N s.1 s.2).sat Q
theorem loop_at {N k : Nat} {b : Code} {live : List Nat} {nils : List (Nat × TypeId)} {S : X → List AV × Heap} {pre : X → Prop} {O : X → Out} (μ : X → Nat)
    (hr : ∀ x, pre x → RoundOK P Γ m N k b live nils (S x) (OwesA S pre O μ (μ x) (O x))) : ∀ x, pre x → LoopOK P Γ m N b (LSpec.at live nils (S x) (O x)) := by
  intro x0 hp0 vals0 H0 o h0 κ σ0 φ0 a0 w0 Q hG0 hN0 hI0 hQ
  obtain ⟨hs0, h0⟩ := Tree.chk_get (show (Tree.chk _ (Tree.leaf (O x0))).get = some o from h0)
  obtain rfl := Tree.leaf_get h0
  obtain ⟨hle1, hle2⟩ := cl_iff.1 hs0
  let J : Act → World → Nat → Prop := fun a w n => ∃ x σ φ, pre x ∧ O x = O x0 ∧ σ0.le σ ∧ (∀ k, k < m → φ k = φ0 k) ∧ a.defers = a0.defers ∧ a.tmps.size = N ∧
    Inv κ m σ φ (expand N live (S x).1) (S x).2 a w ∧ μ x = n
  refine wp_loop (fun a w => ∃ n, J a w n) (fun a w => leastN (J a w)) ⟨_, x0, σ0, φ0, hp0, rfl, Store.le_refl _, fun _ _ => rfl, rfl, hN0, hI0.le hle1 hle2, rfl⟩ ?_
  intro a w hJ
  obtain ⟨x, σ, φ, hs, ho, e1, e2, e3, e4, hI, hn⟩ := leastN_mem hJ
  obtain ⟨T, L, ip, hL, hrr⟩ := (hr x hs).ok
  obtain ⟨r, hr1, hr2⟩ := Tree.sat_iff.1 hrr
  unfold roundE at hr1
  obtain ⟨o1, ho1, ho2⟩ := Tree.get_bind_some hr1
  refine code_ok b k _ (S x).2 o1 σ φ a w _ hL ho1 hI (hG0.mono e1) expand_len ?_
  intro a' w' σ' φ' f1 f2 f3 f4 hI'
  split at ho2
  · rename_i vals' H' hh
    simp only [Tree.get, Option.some.injEq] at ho2
    subst ho2
    obtain ⟨φ2, g1, hI2⟩ := head_ok hh hI'
    have hN' : a'.tmps.size = N := hI'.tmps.trans f4
    rw [hN'] at hI2
    unfold OwesA at hr2
    cases hex : o1.ex with
    | normal =>
      simp only [hex] at hr2
      obtain ⟨x', k1, k2, k3, k5, k4⟩ := hr2
      have hJ' : J a' w' (μ x') := ⟨x', σ', φ2, k3, k5.trans ho, Store.le_trans e1 f1, fun k hk => (g1 k hk).trans ((f2 k hk).trans (e2 k hk)), f3.trans e3, hN', hI2.le k1 k2, rfl⟩
      refine ⟨⟨_, hJ'⟩, Nat.lt_of_le_of_lt (leastN_le hJ') ?_⟩
      rw [← hn]; exact k4
    | exit id =>
      simp only [hex, ho] at hr2
      obtain ⟨k1, k2, k3⟩ := hr2
      have := hQ a' w' σ' φ2 (Store.le_trans e1 f1) (fun k hk => (g1 k hk).trans ((f2 k hk).trans (e2 k hk))) (f3.trans e3) hN' (hI2.le k2 k3)
      rw [← k1] at this
      exact this
    | ret =>
      simp only [hex, ho] at hr2
      obtain ⟨k1, k2, k3⟩ := hr2
      have := hQ a' w' σ' φ2 (Store.le_trans e1 f1) (fun k hk => (g1 k hk).trans ((f2 k hk).trans (e2 k hk))) (f3.trans e3) hN' (hI2.le k2 k3)
      rw [← k1] at this
      exact this
  · simp [Tree.get] at ho2
/-- a contract holds where more is known -/
theorem Contract.more {f : FuncId} {args a0 : List AV} {Hin H0 : List Blk} {r r0 : Res} (h : Contract P Γ f a0 H0 r0) (hv : LeL args a0) (hH : LeH (Hin.map some) (H0.map some)) (he : r0.heap H0 = r.heap Hin) (hval : r0.val = r.val) : Contract P Γ f args Hin r := by
  intro σ φ w vals hG hV hn hR
  have hlen : Hin.length = H0.length := by simpa using hH.len
  have := h σ φ w vals hG ⟨by rw [← hV.1]; exact hv.len.symm, fun j c y hc hy => by
    obtain ⟨x, h1, h2⟩ := hv.at j c hc
    exact h2.v (hV.2 j x y h1 hy)⟩ (by rw [← hlen]; exact hn) (hR.le fun i b' hb => hH.get i b' hb)
  refine this.mono fun e w' ⟨σ', φ', v, e1, e2, e3, e4, e5⟩ => ⟨σ', φ', v, e1, by rw [← hval]; exact e2, by rw [← he]; exact e3, by rw [hlen]; exact e4, by rw [← he]; exact e5⟩
/-- a function's summary at one call: H1 is what becomes of the blocks that were handed in -/
noncomputable def atSpec (a0 : List AV) (H0 : List Blk) (v : AV) (H1 : List (Option Blk)) (new : List Blk) (args : List AV) (Hin : List Blk) : Tree Res :=
  .chk (cl (LeL args a0 ∧ LeH (Hin.map some) (H0.map some))) (.leaf { val := v, upd := H1.map some, new := new })
/-- a summary of a function of scalars, its loops by what it is called with -/
def CT.funL (f : FuncId) (fn : Func) (c : Code) (T : List (CT P Γ)) (L : List KC → Nat → LSpec) (ip : Bool) (ntmps : Nat) (results : List ResultVar) (sh : List Sh) (pre : List KC → Bool) (g : List KC → AV) (hf : P.funcs[f]? = some fn) (hb : fn.body = some c) (hr : fn.results.toList = results)
    (hnt : fn.ntmps = ntmps) (hn : (fn.name == "runtime.NumGoroutine") = false) (hsz : sh.length ≤ ntmps) (hL : ∀ l, kFit (shCels sh) l = true → pre l = true → ∀ (j : Nat) (b : Code), (loopBodies c)[j]? = some b → LoopOK P Γ 0 ntmps b (L l j))
    (hs : ∀ l, kFit (shCels sh) l = true → pre l = true → Gives (bodyE T (L l) ip ntmps results c (toSh sh l) []) (g l)) : CT P Γ where
  f := f
  spec := funSpec sh pre g
  enters := callFunc_enters hf (by rw [hb]; rfl) hn
  ok := fun args Hin r h => by
    unfold funSpec at h
    split at h
    · split at h
      · rename_i l hl
        obtain ⟨hp, h⟩ := Tree.chk_get h
        obtain rfl := Tree.leaf_get h
        by_cases hfit : kFit (shCels sh) l = true
        · have hlen := toSh_len sh l
          subst hr; subst hnt
          exact (contract_of (T := T) (ip := ip) (Hin := []) (r := { val := g l }) hf hb (L l) (hL l hfit hp) (by rw [hlen]; exact hsz) (hs l hfit hp).ok).weak fun σ φ ys hv => (unSh_ok hl hv).2
        · intro σ φ w vals hG hV
          exact absurd (unSh_ok hl hV).1 hfit
      · simp [Tree.get] at h
    · simp [Tree.get] at h
/-- what a function answers at one call -/
structure Answers (P : Program) (Γ : Nat → AV) (f : FuncId) (a0 : List AV) (H0 : List Blk) (v : AV) (H1 : List (Option Blk)) (new : List Blk) : Prop where
  len : H1.length = H0.length
  enters : ∀ (args : Array Value) (w : World), (callFunc f args).run P w = .ok (.enter f args) w
  ok : Contract P Γ f a0 H0 { val := v, upd := H1.map some, new := new }
theorem outOf_all : ∀ (Hin : List Blk) (us : List (Option Blk)), us.length = Hin.length → outOf Hin (us.map some) = us := outOf_somes
noncomputable def CT.at (f : FuncId) {a0 : List AV} {H0 : List Blk} {v : AV} {H1 : List (Option Blk)} {new : List Blk} (h : Answers P Γ f a0 H0 v H1 new) : CT P Γ where
  f := f
  spec := atSpec a0 H0 v H1 new
  enters := h.enters
  ok := fun args Hin r hr => by
    obtain ⟨h1, h2⟩ := Tree.chk_get hr
    obtain rfl := Tree.leaf_get h2
    obtain ⟨hv, hH⟩ := cl_iff.1 h1
    refine h.ok.more hv hH ?_ rfl
    have hlen : Hin.length = H0.length := by simpa using hH.len
    unfold Res.heap
    rw [outOf_all _ _ h.len, outOf_all _ _ (h.len.trans hlen.symm)]
/-- by its body -/
theorem answers {f : FuncId} {fn : Func} {c : Code} (T : List (CT P Γ)) (L : Nat → LSpec) (ip : Bool) {ntmps : Nat} {results : List ResultVar} {a0 : List AV} {H0 : List Blk} {v : AV} {H1 : List (Option Blk)} {new : List Blk}
    (hf : P.funcs[f]? = some fn) (hb : fn.body = some c) (hr : fn.results.toList = results) (hnt : fn.ntmps = ntmps) (hn : (fn.name == "runtime.NumGoroutine") = false) (hsz : a0.length ≤ ntmps) (hlen : H1.length = H0.length)
    (hL : ∀ (j : Nat) (b : Code), (loopBodies c)[j]? = some b → LoopOK P Γ H0.length ntmps b (L j))
    (hs : Meets (bodyE T L ip ntmps results c a0 H0) v (H1 ++ new.map some)) : Answers P Γ f a0 H0 v H1 new where
  len := hlen
  enters := callFunc_enters hf (by rw [hb]; rfl) hn
  ok := by
    subst hr; subst hnt
    refine contract_of (T := T) (ip := ip) hf hb L hL hsz ?_
    have e : ({ val := v, upd := H1.map some, new := new } : Res).heap H0 = H1 ++ new.map some := by
      unfold Res.heap
      rw [outOf_all _ _ hlen]
    rw [e]
    exact hs.ok
end
end Go.Eng

/- A slice of bytes as an argument. -/
namespace Go.Eng
open Go Go.ChangeShapes
set_option linter.unusedSimpArgs false
set_option linter.unusedVariables false
theorem textOf_size (n : Nat) (f : Nat → List AV) : (textOf n f).size = n := by
  unfold textOf
  show ((List.range n).map _).toArray.size = n
  simp
theorem sbyte_textOf {n j : Nat} {f : Nat → List AV} {v : Int} (hj : j < n) (hf : f j = [.v (.int .u8 v)]) (h : 0 ≤ v) (h' : v < 256) : sbyte (textOf n f) j = v := by
  unfold textOf sbyte
  simp only [List.getElem?_toArray, List.getElem?_map, List.getElem?_range hj, Option.map_some, Option.getD_some, hf, byteIn]
  simp
  omega
/-- a law's proof at one input, with the summaries that it uses -/
structure LawOK (P : Program) (Γ : Nat → AV) (ntmps : Nat) (results : List ResultVar) (c : Code) (args : List AV) : Prop where
  ok : ∃ (T : List (CT P Γ)) (L : Nat → LSpec) (ip : Bool), (∀ (j : Nat) (b : Code), (loopBodies c)[j]? = some b → LoopOK P Γ 0 ntmps b (L j)) ∧ Right (bodyE T L ip ntmps results c args [])
theorem LawOK.mk' {P : Program} {Γ : Nat → AV} {ntmps : Nat} {results : List ResultVar} {c : Code} {args : List AV} {T : List (CT P Γ)} {L : Nat → LSpec} {ip : Bool} (hL : ∀ (j : Nat) (b : Code), (loopBodies c)[j]? = some b → LoopOK P Γ 0 ntmps b (L j))
    (h : Right (bodyE T L ip ntmps results c args [])) : LawOK P Γ ntmps results c args := ⟨T, L, ip, hL, h⟩
noncomputable def CT.lawE {P : Program} {Γ : Nat → AV} {X : Type} (A : X → List AV) (pre : X → Prop) (f : FuncId) (fn : Func) (c : Code) (ntmps : Nat) (results : List ResultVar) (hf : P.funcs[f]? = some fn) (hb : fn.body = some c) (hr : fn.results.toList = results)
    (hnt : fn.ntmps = ntmps) (hn : (fn.name == "runtime.NumGoroutine") = false) (hsz : ∀ x, pre x → (A x).length ≤ ntmps) (hs : ∀ x, pre x → LawOK P Γ ntmps results c (A x)) : CT P Γ where
  f := f
  spec := lawSpec A pre
  enters := callFunc_enters hf (by rw [hb]; rfl) hn
  ok := fun args Hin r h => by
    obtain ⟨rfl, rfl, x, hp, rfl⟩ := lawSpec_get h
    obtain ⟨T, L, ip, hL, h⟩ := (hs x hp).ok
    subst hr; subst hnt
    exact contract_of (T := T) (ip := ip) hf hb L hL (hsz x hp) h.ok
/-- bytes as an argument: nil, or a slice -/
def bArg : Option ByteArray → AV
  | none => .v (.slice none 0 0)
  | some t => .sl 1 t.size (bsF t)
section
variable {H : Type} {enc : TypeId × Value → H} {P : Program} {w : World} {base : Nat} {sp : Nat → Bool} {held : Bool}
theorem V0.bytes {σ : Store} {m : Nat} {g : Nat → Int} {v : Value} (h : V0 σ (.sl 1 m fun i => [.v (.int .u8 (g i))]) v) (hw : ∀ i, i < m → 0 ≤ g i ∧ g i < 256) :
    V0 σ (bArg (some (textOf m fun i => [.v (.int .u8 (g i))]))) v := by
  have hs := textOf_size m fun i => [AV.v (.int .u8 (g i))]
  show V0 σ (.sl 1 _ _) v
  rw [hs]
  cases h with
  | sl _ _ _ ad cap ys hsp hn hl hm ho hv =>
    refine .sl 1 m _ ad cap ys hsp hn (fun _ => rfl) (fun e j c he hc => ?_) (fun e j c he hc => ?_) (fun e j c he hc => ?_)
    · cases j with
      | zero => exact hm e 0 (.v (.int .u8 (g e))) he rfl
      | succ j => simp [bsF] at hc
    · cases j with
      | zero => exact ho e 0 (.v (.int .u8 (g e))) he rfl
      | succ j => simp [bsF] at hc
    · cases j with
      | zero =>
        have h1 := hv e 0 (.v (.int .u8 (g e))) he rfl
        simp only [bsF, List.getElem?_cons_zero, Option.some.injEq] at hc
        subst hc
        rw [sbyte_textOf he rfl (hw e he).1 (hw e he).2]
        exact h1
      | succ j => simp [bsF] at hc
  | slnil _ _ _ A cap hl hn ha => exact .slnil 1 m _ A cap (fun _ => rfl) hn ha
theorem open_bytes {t e : TypeId} {v : Value} {r : Reach} {b0 : Nat} {d : DataW H} {ps : List MemPlace} (ht : P.underlying t = some (.slice e)) (he : P.underlying e = some (.int .u8)) (hc : P.cellsOf e = 1)
    (hval : Value.okWide P w r b0 t v) (h : DataW.Trod enc P w base sp held t v d ps) : ∃ x : Option ByteArray, V0 (σof w) (bArg x) v := by
  rcases open_sl ht he hc hval h with rfl | ⟨m, g, h1, h2⟩
  · exact ⟨none, .v _⟩
  · refine ⟨_, h1.bytes fun i hi => ?_⟩
    have := h2 i hi
    simp [Lit.wf, IntKind.min, IntKind.max, IntKind.signed, IntKind.bits] at this
    omega
end
end Go.Eng

/- Plain facts on sets of bits and their lists (out of chapter 04's texts). -/
namespace Go.Eng.M
open Go Go.Eng
set_option linter.unusedSimpArgs false
set_option linter.unusedVariables false
theorem pc_le (s : Int) : pc s ≤ 32 := by
  unfold pc bitsL
  exact Nat.le_trans (List.length_filter_le _ _) (by simp)
/-! ### the counts -/
def timesF (k f : Int) : Int := if f < 1 ∨ 3 < f then 0 else k * f + 1
def fullF (f : Int) : Int := if f < 1 ∨ 3 < f then 0 else if f = 1 then 15 else if f = 2 then 127 else 1023
def leadF (f r : Int) : Int := if f < 1 ∨ 3 < f then 0 else r % (3 * f + 1)
theorem few {f : Int} (h : ¬ (f < 1 ∨ 3 < f)) : f = 1 ∨ f = 2 ∨ f = 3 := by omega
theorem wrap64 {x : Int} (h : -9223372036854775808 ≤ x) (h' : x ≤ 9223372036854775807) : IntKind.i64.wrap x = x := by
  simp only [IntKind.wrap, IntKind.signed, IntKind.bits]; simp; omega
theorem bad_iff {f : Int} : (bif decide (f < 1) then true else decide (3 < f)) = true ↔ (f < 1 ∨ 3 < f) := by
  by_cases h : f < 1 <;> simp [h]
theorem bad_iff' {f : Int} : (bif decide (f < 1) then true else decide (3 < f)) = false ↔ ¬ (f < 1 ∨ 3 < f) := by
  by_cases h : f < 1 <;> simp [h]
theorem times_zero {f : Int} : timesF 3 f = 0 ↔ (f < 1 ∨ 3 < f) := by
  unfold timesF; split <;> omega
theorem tmod_emod (r : Int) {n : Int} (hn : n = 4 ∨ n = 7 ∨ n = 10) : -n < r.tmod n ∧ r.tmod n < n ∧ (r.tmod n < 0 → r.tmod n + n = r % n) ∧ (0 ≤ r.tmod n → r.tmod n = r % n) := by
  by_cases h : 0 ≤ r
  · rw [Int.tmod_eq_emod_of_nonneg h]
    rcases hn with rfl | rfl | rfl <;> omega
  · obtain ⟨m, rfl⟩ : ∃ m : Nat, r = -(m : Int) := ⟨r.natAbs, by omega⟩
    rw [Int.neg_tmod, Int.tmod_eq_emod_of_nonneg (by omega)]
    rcases hn with rfl | rfl | rfl <;> omega
theorem times3 {f : Int} (h : ¬ (f < 1 ∨ 3 < f)) : timesF 3 f = 3 * f + 1 ∧ (3 * f + 1 = 4 ∨ 3 * f + 1 = 7 ∨ 3 * f + 1 = 10) := by
  rw [timesF, if_neg h]; exact ⟨rfl, by omega⟩
def tb (s : Int) (i : Nat) : Bool := s.toNat.testBit i
def cnt (p : Nat → Bool) : Nat := ((List.range 32).filter p).length
theorem pc_cnt (s : Int) : pc s = cnt (tb s) := rfl
theorem cnt_or (p q : Nat → Bool) : cnt p + cnt q = cnt (fun i => p i || q i) + cnt (fun i => p i && q i) := by
  unfold cnt
  generalize List.range 32 = l
  induction l with
  | nil => rfl
  | cons x l ih => cases hp : p x <;> cases hq : q x <;> simp [List.filter_cons, hp, hq] <;> omega
theorem cnt_mono {p q : Nat → Bool} (h : ∀ i, i < 32 → p i = true → q i = true) : cnt p ≤ cnt q := by
  unfold cnt
  have : ∀ l : List Nat, (∀ i ∈ l, p i = true → q i = true) → (l.filter p).length ≤ (l.filter q).length := by
    intro l
    induction l with
    | nil => intro _; simp
    | cons x l ih =>
      intro h
      have h1 := ih fun i hi => h i (by simp [hi])
      cases hp : p x with
      | true => simp [List.filter_cons, hp, h x (by simp) hp]; exact h1
      | false => cases hq : q x <;> simp [List.filter_cons, hp, hq] <;> omega
  exact this _ fun i hi => h i (by simpa using hi)
theorem cnt_congr {p q : Nat → Bool} (h : ∀ i, i < 32 → p i = q i) : cnt p = cnt q :=
  Nat.le_antisymm (cnt_mono fun i hi hp => by rw [← h i hi]; exact hp) (cnt_mono fun i hi hp => by rw [h i hi]; exact hp)
theorem u32_nat {x : Int} (h : inU32 x = true) : ∃ n : Nat, x = n ∧ n < 2 ^ 32 := by
  obtain ⟨h1, h2⟩ := inU32_iff.1 h
  obtain ⟨n, rfl⟩ := Int.eq_ofNat_of_zero_le h1
  exact ⟨n, rfl, by omega⟩
theorem nat_u32 {n : Nat} (h : n < 2 ^ 32) : inU32 (n : Int) = true := inU32_iff.2 ⟨by omega, by omega⟩
theorem tb_and {x y : Int} (hx : inU32 x = true) (hy : inU32 y = true) : inU32 (bitI .and .u32 x y) = true ∧ ∀ i, tb (bitI .and .u32 x y) i = (tb x i && tb y i) := by
  obtain ⟨n, rfl, hn⟩ := u32_nat hx
  obtain ⟨m, rfl, hm⟩ := u32_nat hy
  rw [and_u32 n m hn hm]
  exact ⟨nat_u32 (Nat.lt_of_le_of_lt Nat.and_le_left hn), fun i => by simp [tb, Nat.testBit_and]⟩
theorem tb_or {x y : Int} (hx : inU32 x = true) (hy : inU32 y = true) : inU32 (bitI .or .u32 x y) = true ∧ ∀ i, tb (bitI .or .u32 x y) i = (tb x i || tb y i) := by
  obtain ⟨n, rfl, hn⟩ := u32_nat hx
  obtain ⟨m, rfl, hm⟩ := u32_nat hy
  rw [or_u32 n m hn hm]
  exact ⟨nat_u32 (Nat.or_lt_two_pow hn hm), fun i => by simp [tb, Nat.testBit_or]⟩
theorem tb_andNot {x y : Int} (hx : inU32 x = true) (hy : inU32 y = true) : inU32 (bitI .andNot .u32 x y) = true ∧ ∀ i, i < 32 → tb (bitI .andNot .u32 x y) i = (tb x i && !tb y i) := by
  obtain ⟨n, rfl, hn⟩ := u32_nat hx
  obtain ⟨m, rfl, hm⟩ := u32_nat hy
  have e : bitI .andNot .u32 (n : Int) (m : Int) = (((BitVec.ofInt 32 (n : Int) &&& ~~~ BitVec.ofInt 32 (m : Int)).toNat : Nat) : Int) := by
    show IntKind.u32.wrap (((BitVec.ofInt 32 (n : Int) &&& ~~~ BitVec.ofInt 32 (m : Int)).toNat : Nat) : Int) = _
    rw [wrap_u32_nat, Nat.mod_eq_of_lt (BitVec.isLt _)]
  rw [e]
  refine ⟨nat_u32 (BitVec.isLt _), fun i hi => ?_⟩
  have h1 : (BitVec.ofInt 32 (n : Int)).getLsbD i = n.testBit i := by rw [BitVec.getLsbD, ofInt_nat n hn]
  have h2 : (BitVec.ofInt 32 (m : Int)).getLsbD i = m.testBit i := by rw [BitVec.getLsbD, ofInt_nat m hm]
  show ((BitVec.ofInt 32 (n : Int) &&& ~~~ BitVec.ofInt 32 (m : Int)).toNat : Int).toNat.testBit i = _
  rw [Int.toNat_natCast]
  show (BitVec.ofInt 32 (n : Int) &&& ~~~ BitVec.ofInt 32 (m : Int)).getLsbD i = _
  rw [BitVec.getLsbD_and, BitVec.getLsbD_not, h1, h2]
  simp [tb, hi]
theorem full_in (f : Int) : inU32 (fullF f) = true := by
  unfold fullF; repeat' split
  all_goals decide
theorem full_cnt {f : Int} (h : ¬ (f < 1 ∨ 3 < f)) : cnt (tb (fullF f)) = (3 * f + 1).toNat := by
  rcases few h with rfl | rfl | rfl <;> decide
def okB (k : Int) : Bool := bif decide ((0 : Int) ≤ k) then decide (k < (32 : Int)) else false
theorem okB_iff {k : Int} : okB k = true ↔ 0 ≤ k ∧ k < 32 := by
  unfold okB; by_cases h : 0 ≤ k <;> simp [h]
theorem okB_not {k : Int} : okB k = false ↔ ¬ (0 ≤ k ∧ k < 32) := by
  rw [← okB_iff]; simp
def hasB (s k : Int) : Bool := okB k && tb s k.toNat
def putU (s k : Int) : Int := bif okB k then bitI .or .u32 s ((2 ^ k.toNat : Nat) : Int) else 0
def errF (k : Int) : Int := bif okB k then 0 else 40
theorem bit_one {s k : Int} (hs : inU32 s = true) (hk : okB k = true) : decide (bitI .and .u32 (s.fdiv (2 ^ min k.toNat IntKind.u32.bits)) 1 = 1) = tb s k.toNat := by
  obtain ⟨n, rfl, hn⟩ := u32_nat hs
  obtain ⟨h0, h1⟩ := okB_iff.1 hk
  obtain ⟨m, rfl⟩ := Int.eq_ofNat_of_zero_le h0
  have hm : m < 32 := by omega
  rw [shr32 n m (by omega)]
  have hlt : n / 2 ^ m < 2 ^ 32 := Nat.lt_of_le_of_lt (Nat.div_le_self _ _) hn
  have := and_u32 (n / 2 ^ m) 1 hlt (by decide)
  rw [show ((1 : Nat) : Int) = 1 from rfl] at this
  rw [this, Nat.and_one_is_mod, tb, Int.toNat_natCast, Int.toNat_natCast, Nat.testBit_eq_decide_div_mod_eq]
  have e : (((n / 2 ^ m % 2 : Nat) : Int) = 1) ↔ (n / 2 ^ m % 2 = 1) := by omega
  simp only [e]
theorem pow_one {k : Int} (hk : okB k = true) : IntKind.u32.wrap (1 * 2 ^ min k.toNat IntKind.u32.bits) = ((2 ^ k.toNat : Nat) : Int) ∧ inU32 ((2 ^ k.toNat : Nat) : Int) = true := by
  obtain ⟨h0, h1⟩ := okB_iff.1 hk
  have hlt : 2 ^ k.toNat < 2 ^ 32 := Nat.pow_lt_pow_right (by decide) (by omega)
  have e : (1 * 2 ^ min k.toNat IntKind.u32.bits : Int) = ((2 ^ k.toNat : Nat) : Int) := by
    rw [show IntKind.u32.bits = 32 from rfl, Nat.min_eq_left (by omega)]; simp
  rw [e, wrap_u32_nat, Nat.mod_eq_of_lt hlt]
  exact ⟨rfl, nat_u32 hlt⟩
open Classical in
noncomputable def sameF (f : Nat → List AV) (g : Nat → Int) : Bool := decide (f = ints g)
open Classical in
theorem sameF_iff {f : Nat → List AV} {g : Nat → Int} : sameF f g = true ↔ f = ints g := by unfold sameF; exact decide_eq_true_iff
theorem bitsL_sorted (s : Nat) : (bitsL s).Pairwise (· < ·) := List.Pairwise.filter _ List.pairwise_lt_range
theorem nth_mem {s : Int} {j : Nat} (h : j < pc s) : ∃ t : Nat, nth s j = t ∧ t ∈ bitsL s.toNat ∧ (bitsL s.toNat)[j]? = some t := by
  have h' : j < (bitsL s.toNat).length := h
  refine ⟨(bitsL s.toNat)[j], ?_, List.getElem_mem h', by simp [h']⟩
  unfold nth
  rw [List.getD_eq_getElem?_getD]; simp [h']
theorem nth_ok {s : Int} (hs : inU32 s = true) {j : Nat} (h : j < pc s) : okB (nth s j) = true ∧ tb s (nth s j).toNat = true := by
  obtain ⟨t, e, ht, _⟩ := nth_mem h
  obtain ⟨n, rfl, hn⟩ := u32_nat hs
  rw [Int.toNat_natCast] at ht
  have h1 := (mem_bitsL hn).1 ht
  have h2 : t < 32 := by
    unfold bitsL at ht
    exact List.mem_range.1 (List.mem_filter.1 ht).1
  rw [e]
  exact ⟨okB_iff.2 ⟨by omega, by omega⟩, by simpa [tb] using h1⟩
theorem nth_lt {s : Int} {i j : Nat} (hij : i < j) (h : j < pc s) : nth s i < nth s j := by
  obtain ⟨t, e, _, ht⟩ := nth_mem (s := s) (j := i) (by omega)
  obtain ⟨u, e', _, hu⟩ := nth_mem h
  obtain ⟨l1, h1⟩ := List.getElem?_eq_some_iff.1 ht
  obtain ⟨l2, h2⟩ := List.getElem?_eq_some_iff.1 hu
  have := List.pairwise_iff_getElem.1 (bitsL_sorted s.toNat) i j l1 l2 hij
  rw [h1, h2] at this
  rw [e, e']; omega
def upto (s : Int) : Nat → Int
  | 0 => 0
  | i + 1 => putU (upto s i) (nth s i)
theorem tb_put {s k : Int} (hs : inU32 s = true) (hk : okB k = true) : inU32 (putU s k) = true ∧ ∀ i, tb (putU s k) i = (tb s i || decide (i = k.toNat)) := by
  unfold putU
  rw [hk, cond_true]
  obtain ⟨h1, h2⟩ := tb_or hs (pow_one hk).2
  refine ⟨h1, fun i => ?_⟩
  refine (h2 i).trans ?_
  have e : tb ((2 ^ k.toNat : Nat) : Int) i = decide (i = k.toNat) := by
    unfold tb
    rw [Int.toNat_natCast, Nat.testBit_two_pow]
    by_cases h : k.toNat = i
    · simp [h]
    · have : ¬ i = k.toNat := fun e => h e.symm
      simp [h, this]
  rw [e]
theorem upto_ok {s : Int} (hs : inU32 s = true) : ∀ i, i ≤ pc s → inU32 (upto s i) = true ∧ ∀ t, tb (upto s i) t = true ↔ ∃ j, j < i ∧ (nth s j).toNat = t := by
  intro i
  induction i with
  | zero => intro _; exact ⟨(by decide : inU32 0 = true), fun t => by simp [upto, tb]⟩
  | succ i ih =>
    intro hi
    obtain ⟨h1, h2⟩ := ih (by omega)
    obtain ⟨k1, k2⟩ := tb_put h1 (nth_ok hs (j := i) (by omega)).1
    refine ⟨k1, fun t => ?_⟩
    show tb (putU (upto s i) (nth s i)) t = true ↔ _
    rw [k2, Bool.or_eq_true, h2, decide_eq_true_eq]
    constructor
    · rintro (⟨j, hj, e⟩ | e)
      · exact ⟨j, by omega, e⟩
      · exact ⟨i, by omega, e.symm⟩
    · rintro ⟨j, hj, e⟩
      by_cases h : j = i
      · subst h; exact .inr e.symm
      · exact .inl ⟨j, by omega, e⟩
theorem u32_ext {x y : Int} (hx : inU32 x = true) (hy : inU32 y = true) (h : ∀ t, tb x t = tb y t) : x = y := by
  obtain ⟨n, rfl, _⟩ := u32_nat hx
  obtain ⟨m, rfl, _⟩ := u32_nat hy
  have : n = m := Nat.eq_of_testBit_eq fun t => by simpa [tb] using h t
  rw [this]
theorem mem_nth {s : Int} (hs : inU32 s = true) {t : Nat} : tb s t = true ↔ ∃ j, j < pc s ∧ (nth s j).toNat = t := by
  obtain ⟨n, rfl, hn⟩ := u32_nat hs
  constructor
  · intro h
    have h1 : t ∈ bitsL n := (mem_bitsL hn).2 (by simpa [tb] using h)
    obtain ⟨j, hj, e⟩ := List.getElem_of_mem h1
    refine ⟨j, hj, ?_⟩
    unfold nth
    rw [Int.toNat_natCast, List.getD_eq_getElem?_getD]
    simp [hj, e]
  · rintro ⟨j, hj, rfl⟩
    exact (nth_ok (nat_u32 hn) hj).2
theorem upto_all {s : Int} (hs : inU32 s = true) : upto s (pc s) = s := by
  obtain ⟨h1, h2⟩ := upto_ok hs (pc s) (Nat.le_refl _)
  refine u32_ext h1 hs fun t => ?_
  have := (h2 t).trans (mem_nth hs).symm
  cases h : tb s t with
  | true => exact this.2 h
  | false =>
    cases h' : tb (upto s (pc s)) t with
    | false => rfl
    | true => rw [this.1 h'] at h; simp at h
theorem bitsL_half {n : Nat} (h : n < 2 ^ 32) : bitsL n = (if n % 2 = 1 then [0] else []) ++ (bitsL (n / 2)).map (· + 1) := by
  have e : List.range 32 = 0 :: (List.range 31).map (· + 1) := by decide
  have e31 : (List.range 31).filter (fun i => (n / 2).testBit i) = (List.range 32).filter fun i => (n / 2).testBit i := by
    rw [show List.range 32 = List.range 31 ++ [31] by decide, List.filter_append]
    have : (n / 2).testBit 31 = false := Nat.testBit_lt_two_pow (by omega)
    simp [this]
  unfold bitsL
  rw [← e31]
  conv => lhs; rw [e]
  rw [List.filter_cons, List.filter_map]
  have h0 : n.testBit 0 = decide (n % 2 = 1) := by rw [Nat.testBit_zero]
  have h1 : ((fun i => n.testBit i) ∘ fun x => x + 1) = fun i => (n / 2).testBit i := by
    funext i; simp [Nat.testBit_succ]
  rw [h0, h1]
  by_cases hb : n % 2 = 1 <;> simp [hb]
def half (s : Int) : Int := IntKind.u32.wrap (s.tdiv 2)
theorem half_ok {s : Int} (hs : inU32 s = true) : inU32 (half s) = true ∧ (half s).toNat = s.toNat / 2 ∧ (s.tmod 2 = 1 ↔ s.toNat % 2 = 1) := by
  obtain ⟨n, rfl, hn⟩ := u32_nat hs
  have e : half (n : Int) = ((n / 2 : Nat) : Int) := by
    unfold half
    have : (n : Int).tdiv 2 = ((n / 2 : Nat) : Int) := by rw [Int.tdiv_eq_ediv_of_nonneg (by omega)]; rfl
    rw [this, wrap_u32 (by omega) (by omega)]
  refine ⟨by rw [e]; exact nat_u32 (by omega), by rw [e, Int.toNat_natCast, Int.toNat_natCast], ?_⟩
  rw [Int.tmod_eq_emod_of_nonneg (by omega), Int.toNat_natCast]; omega
theorem pc_half {s : Int} (hs : inU32 s = true) : pc s = (if s.tmod 2 = 1 then 1 else 0) + pc (half s) := by
  obtain ⟨_, h2, h3⟩ := half_ok hs
  have hlt : s.toNat < 2 ^ 32 := by have := inU32_iff.1 hs; omega
  unfold pc
  rw [bitsL_half hlt, h2]
  by_cases h : s.toNat % 2 = 1
  · simp [h, h3.2 h]; omega
  · have : ¬ s.tmod 2 = 1 := fun e => h (h3.1 e)
    simp [h, this]
theorem nth_half {s : Int} (hs : inU32 s = true) (j : Nat) (hj : j < pc s) : nth s j = if s.tmod 2 = 1 then (if j = 0 then 0 else nth (half s) (j - 1) + 1) else nth (half s) j + 1 := by
  obtain ⟨_, h2, h3⟩ := half_ok hs
  have hlt : s.toNat < 2 ^ 32 := by have := inU32_iff.1 hs; omega
  unfold pc at hj
  unfold nth
  rw [h2]
  rw [bitsL_half hlt] at hj ⊢
  by_cases h : s.toNat % 2 = 1
  · rw [if_pos (h3.2 h)]
    simp only [h, if_true, List.cons_append, List.nil_append] at hj ⊢
    cases j with
    | zero => simp
    | succ j =>
      have : j < (bitsL (s.toNat / 2)).length := by simpa using hj
      simp [this]
  · have : ¬ s.tmod 2 = 1 := fun e => h (h3.1 e)
    rw [if_neg this]
    simp only [h, if_false, List.nil_append] at hj ⊢
    have : j < (bitsL (s.toNat / 2)).length := by simpa using hj
    simp [this]
/-- is there one from i on? -/
def anyIn (p : Nat → Bool) (i n : Nat) : Bool := (List.range (n - i)).any fun d => p (i + d)
theorem anyIn_iff {p : Nat → Bool} {i n : Nat} : anyIn p i n = true ↔ ∃ j, i ≤ j ∧ j < n ∧ p j = true := by
  unfold anyIn
  rw [List.any_eq_true]
  constructor
  · rintro ⟨d, hd, h⟩
    exact ⟨i + d, by omega, by have := List.mem_range.1 hd; omega, h⟩
  · rintro ⟨j, h1, h2, h3⟩
    exact ⟨j - i, List.mem_range.2 (by omega), by rw [show i + (j - i) = j by omega]; exact h3⟩
theorem anyIn_end {p : Nat → Bool} {i n : Nat} (h : n ≤ i) : anyIn p i n = false := by
  cases hb : anyIn p i n with
  | false => rfl
  | true => obtain ⟨j, h1, h2, _⟩ := anyIn_iff.1 hb; omega
theorem anyIn_step {p : Nat → Bool} {i n : Nat} (h : i < n) : anyIn p i n = (p i || anyIn p (i + 1) n) := by
  rw [Bool.eq_iff_iff, Bool.or_eq_true, anyIn_iff, anyIn_iff]
  constructor
  · rintro ⟨j, h1, h2, h3⟩
    by_cases e : j = i
    · subst e; exact .inl h3
    · exact .inr ⟨j, by omega, h2, h3⟩
  · rintro (h3 | ⟨j, h1, h2, h3⟩)
    · exact ⟨i, Nat.le_refl _, h, h3⟩
    · exact ⟨j, by omega, h2, h3⟩
theorem anyIn_congr {p q : Nat → Bool} {i n : Nat} (h : ∀ j, p j = q j) : anyIn p i n = anyIn q i n := by
  rw [show p = q from funext h]
theorem any_has {s k : Int} (hs : inU32 s = true) : anyIn (fun j => decide (getI (ints (nth s) j) = k)) 0 (pc s) = hasB s k := by
  rw [Bool.eq_iff_iff, anyIn_iff, hasB, Bool.and_eq_true, mem_nth hs]
  constructor
  · rintro ⟨j, _, hj, h⟩
    have h' : nth s j = k := of_decide_eq_true h
    rw [← h']
    exact ⟨(nth_ok hs hj).1, j, hj, rfl⟩
  · rintro ⟨hk, j, hj, h⟩
    refine ⟨j, Nat.zero_le _, hj, decide_eq_true ?_⟩
    have h1 := okB_iff.1 (nth_ok hs hj).1
    have h2 := okB_iff.1 hk
    show nth s j = k
    omega
def checkF (f s : Int) : Int := if f < 1 ∨ 3 < f then 1 else if anyIn (fun j => decide (timesF 3 f ≤ getI (ints (nth s) j))) 0 (pc s) = true then 40 else 0
theorem full_tb {f : Int} (h : ¬ (f < 1 ∨ 3 < f)) (t : Nat) : tb (fullF f) t = decide ((t : Int) < timesF 3 f) := by
  have key : ∀ m : Nat, (2 ^ m - 1).testBit t = decide (t < m) := fun m => Nat.testBit_two_pow_sub_one m t
  rcases few h with rfl | rfl | rfl
  · have : (t : Int) < timesF 3 1 ↔ t < 4 := by rw [show timesF 3 1 = 4 by decide]; omega
    rw [show tb (fullF 1) t = (2 ^ 4 - 1).testBit t from rfl, key]; simp only [this]
  · have : (t : Int) < timesF 3 2 ↔ t < 7 := by rw [show timesF 3 2 = 7 by decide]; omega
    rw [show tb (fullF 2) t = (2 ^ 7 - 1).testBit t from rfl, key]; simp only [this]
  · have : (t : Int) < timesF 3 3 ↔ t < 10 := by rw [show timesF 3 3 = 10 by decide]; omega
    rw [show tb (fullF 3) t = (2 ^ 10 - 1).testBit t from rfl, key]; simp only [this]
theorem out_any {f s : Int} (h : ¬ (f < 1 ∨ 3 < f)) (hs : inU32 s = true) : bitI .andNot .u32 s (fullF f) = 0 ↔ anyIn (fun j => decide (timesF 3 f ≤ getI (ints (nth s) j))) 0 (pc s) = false := by
  obtain ⟨h1, h2⟩ := tb_andNot hs (full_in f)
  constructor
  · intro h0
    cases hb : anyIn (fun j => decide (timesF 3 f ≤ getI (ints (nth s) j))) 0 (pc s) with
    | false => rfl
    | true =>
      obtain ⟨j, _, hj, h3⟩ := anyIn_iff.1 hb
      have h4 : timesF 3 f ≤ nth s j := of_decide_eq_true h3
      obtain ⟨k1, k2⟩ := nth_ok hs hj
      have k3 := okB_iff.1 k1
      have := h2 (nth s j).toNat (by omega)
      have h5 : ¬ ((nth s j).toNat : Int) < timesF 3 f := by omega
      have z : tb 0 (nth s j).toNat = false := by simp [tb]
      rw [h0, k2, full_tb h, decide_eq_false h5, z] at this
      exact absurd this (by decide)
  · intro hb
    refine u32_ext h1 (by decide) fun t => ?_
    have h0 : tb 0 t = false := by simp [tb]
    rw [h0]
    rcases Nat.lt_or_ge t 32 with ht | ht
    · rw [h2 t ht]
      cases hst : tb s t with
      | false => rfl
      | true =>
        obtain ⟨j, hj, e⟩ := (mem_nth hs).1 hst
        have k3 := okB_iff.1 (nth_ok hs hj).1
        have : ¬ timesF 3 f ≤ nth s j := fun hle => by
          have := (anyIn_iff (p := fun j => decide (timesF 3 f ≤ getI (ints (nth s) j))) (i := 0) (n := pc s)).2 ⟨j, Nat.zero_le j, hj, decide_eq_true hle⟩
          rw [hb] at this; simp at this
        have h5 : (t : Int) < timesF 3 f := by omega
        rw [full_tb h]; simp [h5]
    · obtain ⟨n, e, hn⟩ := u32_nat h1
      rw [e, tb, Int.toNat_natCast]
      exact Nat.testBit_lt_two_pow (Nat.lt_of_lt_of_le hn (Nat.pow_le_pow_right (by decide) ht))
end Go.Eng.M

/- The library of sets (quorum, and the document's): contracts. -/
namespace Go.Eng.FetQ
open Go Go.Eng Go.Eng.M Go.Proofs
open Go.Eng.F (Γf bodyOf Lno)
set_option linter.unusedSimpArgs false
set_option linter.unusedVariables false
noncomputable def loopOf (c : Code) (j : Nat) : Code := match (loopBodies c)[j]? with | some b => b | none => .skip
noncomputable def spec27 : List AV → List Blk → Tree Res := fun args Hin => match args, Hin with
  | [.v (.int .u32 s)], [] => .chk (inU32 s) (.leaf { val := .v (.int .i64 (tz s)) })
  | _, _ => .fail
noncomputable def list17 (vals : List AV) (H : Heap) : Tree Out := match vals, H with
  | [.v (.int .u32 s), .hs i e n], [some (.arr sz k f)] =>
    .chk (Nat.beq i 0 && Nat.beq e 0 && Nat.beq sz 1 && Nat.beq k n && inU32 s && decide (n + pc s ≤ 1000000)) (.chk (isInts f)
      (.leaf ⟨.exit 0, [.any, .hs 0 0 (n + pc s)], [some (.arr 1 (n + pc s) (ints fun j => bif decide (j < n) then getI (f j) else nth s (j - n)))]⟩))
  | _, _ => .fail
noncomputable def L17 : Nat → LSpec := fun _ => ⟨[0, 3], [(1, 3)], list17⟩
def mu17 (vals : List AV) (_ : Heap) : Nat := match vals with
  | .v (.int _ s) :: _ => pc s
  | _ => 0
noncomputable def spec26 : List AV → List Blk → Tree Res := fun args Hin => match args, Hin with
  | [.v (.int .u32 s)], [] => .chk (inU32 s) (.leaf { val := .v (.int .i64 (pc s)) })
  | _, _ => .fail
theorem run26 (a : Int) : bodyE (P := Try.prog) (Γ := Γf) [] Lno false 21 [.tmp 2] (bodyOf Try.f32) [.v (.int .u32 a)] [] =
    .chk (decide ((0:Int) ≤ 24) && (decide (0 ≤ a.fdiv (2 ^ min (Int.toNat 24) IntKind.u32.bits)) && decide (a.fdiv (2 ^ min (Int.toNat 24) IntKind.u32.bits) < (tab.size : Int)) &&
      (decide ((0:Int) ≤ 16) && (decide (0 ≤ bitI .and .u32 (a.fdiv (2 ^ min (Int.toNat 16) IntKind.u32.bits)) 255) && decide (bitI .and .u32 (a.fdiv (2 ^ min (Int.toNat 16) IntKind.u32.bits)) 255 < (tab.size : Int)) &&
      (decide ((0:Int) ≤ 8) && (decide (0 ≤ bitI .and .u32 (a.fdiv (2 ^ min (Int.toNat 8) IntKind.u32.bits)) 255) && decide (bitI .and .u32 (a.fdiv (2 ^ min (Int.toNat 8) IntKind.u32.bits)) 255 < (tab.size : Int)) &&
      (decide (0 ≤ bitI .and .u32 a 255) && decide (bitI .and .u32 a 255 < (tab.size : Int)))))))))
    (.leaf { val := .v (.int .i64 (IntKind.i64.wrap (IntKind.u8.wrap (IntKind.u8.wrap (IntKind.u8.wrap (sbyte tab (a.fdiv (2 ^ min (Int.toNat 24) IntKind.u32.bits)).toNat +
      sbyte tab (bitI .and .u32 (a.fdiv (2 ^ min (Int.toNat 16) IntKind.u32.bits)) 255).toNat) + sbyte tab (bitI .and .u32 (a.fdiv (2 ^ min (Int.toNat 8) IntKind.u32.bits)) 255).toNat) +
      sbyte tab (bitI .and .u32 a 255).toNat)))), H := [] }) := by kernel_rfl
noncomputable def c26 : CT Try.prog Γf := CT.summed 32 Try.f32 (bodyOf Try.f32) [] Lno false 21 [.tmp 2] spec26 Try.func32 (by kernel_rfl) (by kernel_rfl) (by kernel_rfl) (by kernel_rfl) (fun _ _ _ _ => noLoops (by kernel_rfl)) (by
  intro args Hin r h
  unfold spec26 at h
  split at h
  · rename_i s
    obtain ⟨hc, h⟩ := Tree.chk_get h
    obtain rfl := Tree.leaf_get h
    refine ⟨by simp, ?_⟩
    rw [run26]
    obtain ⟨h1, h2, h3, h4, h5, h6, h7, h8, h9⟩ := ones_table hc
    simp only [Tree.sat_chk, Tree.sat_leaf, Bool.and_eq_true, decide_eq_true_eq]
    exact ⟨⟨by decide, ⟨h1, h2⟩, by decide, ⟨h3, h4⟩, by decide, ⟨h5, h6⟩, h7, h8⟩, .of_eq (by rw [h9]), trivial⟩
  · simp [Tree.get] at h)
noncomputable def spec17 : List AV → List Blk → Tree Res := fun args Hin => match args, Hin with
  | [.v (.int .u32 s)], [] => .chk (inU32 s) (.leaf { val := .hs 0 0 (pc s), new := [.arr 1 (pc s) (ints (nth s))] })
  | _, _ => .fail
theorem run25 (k f : Int) : bodyE (P := Try.prog) (Γ := Γf) [] Lno false 15 [.tmp 4] (bodyOf Try.f30) [.v (.int .i64 k), .v (.int .i64 f)] [] =
    .br (bif decide (f < 1) then true else decide (3 < f)) (.leaf { val := .v (.int .i64 0), H := [] }) (.leaf { val := .v (.int .i64 (IntKind.i64.wrap (IntKind.i64.wrap (k * f) + 1))), H := [] }) := by kernel_rfl
noncomputable def c25 : CT Try.prog Γf := CT.fun2 30 Try.f30 (bodyOf Try.f30) [] Lno false 15 [.tmp 4] .i64 .i64 (fun k f => decide (0 ≤ k) && decide (k ≤ 3)) (fun k f => .v (.int .i64 (timesF k f))) Try.func30 (by kernel_rfl) (by kernel_rfl) (by kernel_rfl) (by kernel_rfl) (by decide) (noLoops (by kernel_rfl)) (by
  intro k f hp
  simp only [Bool.and_eq_true, decide_eq_true_eq] at hp
  rw [run25]
  simp only [Tree.sat_br, Tree.sat_leaf, bad_iff, bad_iff', timesF]
  refine ⟨fun h => ⟨.int (by rw [if_pos h]), trivial⟩, fun h => ⟨.int ?_, trivial⟩⟩
  rw [if_neg h]
  rcases few h with rfl | rfl | rfl
  · rw [wrap64 (x := k * 1) (by omega) (by omega), wrap64 (by omega) (by omega)]
  · rw [wrap64 (x := k * 2) (by omega) (by omega), wrap64 (by omega) (by omega)]
  · rw [wrap64 (x := k * 3) (by omega) (by omega), wrap64 (by omega) (by omega)])
theorem run13 (f : Int) : bodyE (P := Try.prog) (Γ := Γf) [] Lno false 15 [.tmp 2] (bodyOf Try.f20) [.v (.int .i64 f)] [] =
    .br (bif decide (f < 1) then true else decide (3 < f)) (.leaf { val := .v (.int .i64 0), H := [] }) (.leaf { val := .v (.int .i64 (IntKind.i64.wrap (IntKind.i64.wrap (IntKind.i64.wrap (f + f) + f) + 1))), H := [] }) := by kernel_rfl
noncomputable def c13 : CT Try.prog Γf := CT.fun1 20 Try.f20 (bodyOf Try.f20) [] Lno false 15 [.tmp 2] .i64 (fun _ => true) (fun f => .v (.int .i64 (timesF 3 f))) Try.func20 (by kernel_rfl) (by kernel_rfl) (by kernel_rfl) (by kernel_rfl) (by decide) (noLoops (by kernel_rfl)) (by
  intro f _
  rw [run13]
  simp only [Tree.sat_br, Tree.sat_leaf, bad_iff, bad_iff', timesF]
  refine ⟨fun h => ⟨.int (by rw [if_pos h]), trivial⟩, fun h => ⟨.int ?_, trivial⟩⟩
  rw [if_neg h]
  rcases few h with rfl | rfl | rfl <;> decide)
theorem run8 (f : Int) : bodyE (P := Try.prog) (Γ := Γf) [c25] Lno false 5 [.tmp 2] (bodyOf Try.f17) [.v (.int .i64 f)] [] = .chk true (.leaf { val := .v (.int .i64 (timesF 3 f)), H := [] }) := by kernel_rfl
noncomputable def c8 : CT Try.prog Γf := CT.fun1 17 Try.f17 (bodyOf Try.f17) [c25] Lno false 5 [.tmp 2] .i64 (fun _ => true) (fun f => .v (.int .i64 (timesF 3 f))) Try.func17 (by kernel_rfl) (by kernel_rfl) (by kernel_rfl) (by kernel_rfl) (by decide) (noLoops (by kernel_rfl)) (fun f _ => by
  rw [run8]; exact ⟨rfl, .refl _, trivial⟩)
theorem run10 (s : Int) : bodyE (P := Try.prog) (Γ := Γf) [c26] Lno false 5 [.tmp 2] (bodyOf Try.f19) [.v (.int .u32 s)] [] = .chk (inU32 s) (.leaf { val := .v (.int .i64 (pc s)), H := [] }) := by kernel_rfl
noncomputable def c10 : CT Try.prog Γf := CT.fun1 19 Try.f19 (bodyOf Try.f19) [c26] Lno false 5 [.tmp 2] .u32 inU32 (fun s => .v (.int .i64 (pc s))) Try.func19 (by kernel_rfl) (by kernel_rfl) (by kernel_rfl) (by kernel_rfl) (by decide) (noLoops (by kernel_rfl)) (fun s h => by
  rw [run10]; exact ⟨h, .refl _, trivial⟩)
noncomputable def c28 : CT Try.prog Γf := CT.inline 31 Try.f31 (bodyOf Try.f31) [] Lno false 0 9 [.tmp 2] Try.func31 (by kernel_rfl) (by kernel_rfl) (by kernel_rfl) (by kernel_rfl) (noLoops (by kernel_rfl))
theorem run19 (s k : Int) : bodyE (P := Try.prog) (Γ := Γf) [c28] Lno false 13 [.tmp 4, .tmp 5] (bodyOf Try.f18) [.v (.int .u32 s), .v (.int .i64 k)] [] =
  Tree.br (!bif decide ((0 : Int) ≤ k) then decide (k < (32 : Int)) else false)
  (Tree.leaf
    { val := AV.tup [AV.v (Value.int IntKind.u32 (0 : Int)), AV.v (Value.int IntKind.i64 (40 : Int))], H := [] })
  (Tree.chk (decide ((0 : Int) ≤ k))
    (Tree.leaf
      {
        val :=
          AV.tup
            [AV.v
                (Value.int IntKind.u32
                  (bitI BinOp.or IntKind.u32 s
                    (IntKind.u32.wrap ((1 : Int) * (2 : Int) ^ min k.toNat IntKind.u32.bits)))),
              AV.v (Value.int IntKind.i64 (0 : Int))],
        H := [] })) := by kernel_rfl
noncomputable def c19 : CT Try.prog Γf := CT.fun2 18 Try.f18 (bodyOf Try.f18) [c28] Lno false 13 [.tmp 4, .tmp 5] .u32 .i64 (fun s _ => inU32 s) (fun s k => .tup [.v (.int .u32 (putU s k)), .v (.int .i64 (errF k))]) Try.func18 (by kernel_rfl) (by kernel_rfl) (by kernel_rfl) (by kernel_rfl) (by decide) (noLoops (by kernel_rfl)) (fun s k hs => by
  rw [run19]
  have e : (bif decide ((0 : Int) ≤ k) then decide (k < (32 : Int)) else false) = okB k := rfl
  rw [e]
  simp only [Tree.sat_br, Tree.sat_leaf, Tree.sat_chk, Bool.not_eq_true', Bool.not_eq_false']
  refine ⟨fun hk => ⟨.of_eq (by rw [putU, errF, hk]; rfl), trivial⟩, fun hk => ⟨by simpa using (okB_iff.1 hk).1, .of_eq (by rw [putU, errF, hk, (pow_one hk).1]; rfl), trivial⟩⟩)
noncomputable def list20 (vals : List AV) (H : Heap) : Tree Out := match vals, H with
  | [.v (.int .u32 s), .hs a e n, .v (.int .i64 k)], [some (.arr sz q f)] =>
    .chk (Nat.beq a 0 && Nat.beq e 0 && Nat.beq sz 1 && Nat.beq q n && inU32 s && decide (0 ≤ k) && decide (k ≤ 32) && decide (s.toNat < 2 ^ (32 - k.toNat)) && decide (n + pc s ≤ 1000000)) (.chk (isInts f)
      (.leaf ⟨.exit 0, [.any, .hs 0 0 (n + pc s), .any], [some (.arr 1 (n + pc s) (ints fun j => bif decide (j < n) then getI (f j) else bif decide (j < n + pc s) then nth s (j - n) + k else 0))]⟩))
  | _, _ => .fail
noncomputable def L20 : Nat → LSpec := fun _ => ⟨[0, 3, 4], [(1, 3)], list20⟩
def mu20 (vals : List AV) (_ : Heap) : Nat := match vals with
  | .v (.int _ s) :: _ => s.toNat
  | _ => 0
noncomputable def list23 (vals : List AV) (H : Heap) : Tree Out := match vals, H with
  | [.v (.int .i64 k), .v (.bool false), .hs a e n, .v (.int .i64 i)], [some (.arr sz q f)] =>
    .chk (Nat.beq a 0 && Nat.beq e 0 && Nat.beq sz 1 && Nat.beq q n && decide (0 ≤ i) && decide (i ≤ n) && decide (n ≤ 1000000)) (.chk (isInts f)
      (.br (anyIn (fun j => decide (getI (f j) = k)) i.toNat n) (.leaf ⟨.ret, [.v (.int .i64 k), .v (.bool true), .hs 0 0 n, .any], [some (.arr 1 n f)]⟩)
        (.leaf ⟨.exit 0, [.v (.int .i64 k), .v (.bool false), .hs 0 0 n, .any], [some (.arr 1 n f)]⟩)))
  | _, _ => .fail
noncomputable def L23 : Nat → LSpec := fun _ => ⟨[1, 4, 5, 6], [], list23⟩
def mu4 (vals : List AV) (_ : Heap) : Nat := match vals with
  | [_, _, .hs _ _ n, .v (.int _ i)] => ((n : Int) - i).toNat
  | _ => 0
noncomputable def list22 (vals : List AV) (H : Heap) : Tree Out := match vals, H with
  | [.v (.int .i64 k), .v (.int .i64 0), .hs a e n, .v (.int .i64 i)], [some (.arr sz q f)] =>
    .chk (Nat.beq a 0 && Nat.beq e 0 && Nat.beq sz 1 && Nat.beq q n && decide (0 ≤ i) && decide (i ≤ n) && decide (n ≤ 1000000)) (.chk (isInts f)
      (.br (anyIn (fun j => decide (timesF 3 k ≤ getI (f j))) i.toNat n) (.leaf ⟨.ret, [.v (.int .i64 k), .v (.int .i64 40), .hs 0 0 n, .any], [some (.arr 1 n f)]⟩)
        (.leaf ⟨.exit 0, [.v (.int .i64 k), .v (.int .i64 0), .hs 0 0 n, .any], [some (.arr 1 n f)]⟩)))
  | _, _ => .fail
noncomputable def L22 : Nat → LSpec := fun _ => ⟨[0, 4, 5, 6], [], list22⟩
end Go.Eng.FetQ

/- fetch: whom a table asks: plain facts. -/
namespace Go.Eng.F
open Go Go.Eng Go.Eng.M
set_option linter.unusedSimpArgs false
set_option linter.unusedVariables false
def toF (all me : Int) (i : Nat) : Int := (me + 1 + (i : Int) % (all - 1)) % all
def setF (all me : Int) : Nat → Int
  | 0 => 0
  | i + 1 => putU (setF all me i) (toF all me i)
def runF (all me : Int) : Nat → Nat → Int → Bool
  | 0, _, _ => true
  | k + 1, i, s => (decide ((i : Int) + 1 < all - 1) || decide ((pc (putU s (toF all me i)) : Int) = all - 1)) && runF all me k (i + 1) (putU s (toF all me i))
theorem run_all : ([4, 7, 10] : List Int).all (fun all => (List.range 10).all fun (me : Nat) => !decide ((me : Int) < all) || runF all (me : Int) 40 0 0) = true := by kernel_rfl
theorem runF_get {all me : Int} : ∀ (k i : Nat), runF all me k i (setF all me i) = true → ∀ j, j < k → all - 1 ≤ ((i + j : Nat) : Int) + 1 → (pc (setF all me (i + j + 1)) : Int) = all - 1 := by
  intro k
  induction k with
  | zero => exact fun _ _ j hj => absurd hj (Nat.not_lt_zero _)
  | succ k ih =>
    intro i h j hj hle
    unfold runF at h
    rw [Bool.and_eq_true, Bool.or_eq_true] at h
    cases j with
    | zero =>
      rcases h.1 with h1 | h1
      · have := of_decide_eq_true h1; omega
      · exact of_decide_eq_true h1
    | succ j =>
      have := ih (i + 1) h.2 j (by omega) (by rw [show i + 1 + j = i + (j + 1) by omega]; exact hle)
      rw [show i + 1 + j + 1 = i + (j + 1) + 1 by omega] at this
      exact this
theorem set_cnt {all me : Int} (ha : all = 4 ∨ all = 7 ∨ all = 10) (h0 : 0 ≤ me) (h1 : me < all) {i : Nat} (hi : i < 40) (h : all - 1 ≤ (i : Int) + 1) : (pc (setF all me (i + 1)) : Int) = all - 1 := by
  have hr := List.all_eq_true.1 run_all all (by simp only [List.mem_cons, List.not_mem_nil, or_false]; exact ha)
  have hm := List.all_eq_true.1 hr me.toNat (List.mem_range.2 (by omega))
  have e : ((me.toNat : Nat) : Int) = me := Int.toNat_of_nonneg h0
  rw [e, Bool.or_eq_true] at hm
  rcases hm with hm | hm
  · simp [h1] at hm
  · have := runF_get 40 0 hm i hi (by rw [Nat.zero_add]; exact h)
    rw [Nat.zero_add] at this
    exact this
theorem to_ok {all me : Int} (ha : all = 4 ∨ all = 7 ∨ all = 10) (h0 : 0 ≤ me) (h1 : me < all) (i : Nat) : 0 ≤ toF all me i ∧ toF all me i < all ∧ toF all me i ≠ me ∧ okB (toF all me i) = true := by
  have hb : 0 ≤ toF all me i ∧ toF all me i < all ∧ toF all me i ≠ me := by
    unfold toF
    rcases ha with rfl | rfl | rfl <;> omega
  exact ⟨hb.1, hb.2.1, hb.2.2, okB_iff.2 ⟨hb.1, by omega⟩⟩
theorem set_in {all me : Int} (ha : all = 4 ∨ all = 7 ∨ all = 10) (h0 : 0 ≤ me) (h1 : me < all) : ∀ i, inU32 (setF all me i) = true
  | 0 => rfl
  | i + 1 => (tb_put (set_in ha h0 h1 i) (to_ok ha h0 h1 i).2.2.2).1
end Go.Eng.F

/- A slice of structs as an argument: its elements' cells are integers, bools and texts. -/
namespace Go.Eng
open Go Go.ChangeShapes
set_option linter.unusedSimpArgs false
set_option linter.unusedVariables false
theorem goodV_one {k : Cel} {v : Value} (h : goodV k v) : v.oneCell' = true := by
  cases k with
  | int k => obtain ⟨n, rfl, _⟩ := h; rfl
  | bool => obtain ⟨b, rfl⟩ := h; rfl
  | str => obtain ⟨s, rfl, _⟩ := h; rfl
theorem GoodVs.at : ∀ {ks : List Cel} {vs : List Value}, GoodVs ks vs → ∀ (j : Nat) (v : Value), vs[j]? = some v → ∃ k, goodV k v
  | k :: ks, v :: vs, h, 0, _, e => by simp at e; subst e; exact ⟨k, h.1⟩
  | _ :: ks, _ :: vs, h, j + 1, _, e => GoodVs.at h.2 j _ (by simpa using e)
  | [], [], _, j, _, e => by simp at e
  | [], _ :: _, h, _, _, _ => h.elim
  | _ :: _, [], h, _, _, _ => h.elim
section
variable {H : Type} {enc : TypeId × Value → H} {P : Program} {w : World} {base : Nat} {sp : Nat → Bool} {held : Bool}
theorem open_slG {α : Type} [Inhabited α] (D : Nat) (cells : α → List Value) {ks : List Cel} {sz : Nat} (hsz : ks.length = sz) (hcl : ∀ a, (cells a).length = sz) (hdec : ∀ vs, GoodVs ks vs → ∃ a, vs = cells a)
    {t e : TypeId} {v : Value} {r : Reach} {b0 : Nat} {d : DataW H} {ps : List MemPlace} (ht : P.underlying t = some (.slice e)) (hk : ckT P D e = some ks) (hc : P.cellsOf e = sz)
    (hval : Value.okWide P w r b0 t v) (h : DataW.Trod enc P w base sp held t v d ps) :
    v = .slice none 0 0 ∨ ∃ (m : Nat) (g : Nat → α), V0 (σof w) (.sl sz m fun i => (cells (g i)).map AV.v) v ∧ ∀ i, i < m → GoodVs ks (cells (g i)) := by
  obtain ⟨fuel, h⟩ := h
  have hv : v = .slice none 0 0 ∨ ∃ a len cap, v = .slice (some a) len cap ∧ a.spot = none := by
    unfold Value.okWide at hval
    rw [ht] at hval
    simp only at hval
    unfold Cell.okWide at hval
    rw [ht] at hval
    unfold Cell.ok at hval
    rw [ht] at hval
    cases v with
    | slice a len cap =>
      cases a with
      | none => left; match len, cap, hval with | 0, 0, _ => rfl
      | some a => right; exact ⟨a, len, cap, rfl, hval.2.2.2.1⟩
    | _ => exact hval.elim
  rcases hv with rfl | ⟨a, len, cap, rfl, hsp⟩
  · exact .inl rfl
  rcases DataW.trod_slice ht h with ⟨h0, _⟩ | ⟨a', len', cap', elems, rest, n, _, h0, _, hb, hl, hm, hlen, hel, _, _⟩
  · have := (List.cons.inj h0).1; simp at this
  have h1 := (List.cons.inj h0).1
  simp only [Value.slice.injEq, Option.some.injEq] at h1
  obtain ⟨rfl, rfl, rfl⟩ := h1
  have each : ∀ i, i < len → ∃ x : α, GoodVs ks (cells x) ∧ ∀ (j : Nat) (c : Value), (cells x)[j]? = some c → σof w a.block (a.off + i * sz + j) = some c := by
    intro i hi
    have h2 := hel i hi
    rw [List.getElem?_eq_getElem (by omega), Option.bind_eq_some_iff] at h2
    obtain ⟨cs, h3, h4⟩ := h2
    have hg := trod_good D n h4 hk
    obtain ⟨x, rfl⟩ := hdec cs hg
    refine ⟨x, hg, fun j c hj => ?_⟩
    have hjl : j < sz := by have := (List.getElem?_eq_some_iff.1 hj).1; rw [hcl] at this; exact this
    have h5 := (World.cells?_some h3).2.2 j (by rw [hc]; exact hjl)
    rw [hj] at h5
    have e2 : (a.add (i * P.cellsOf e)).add j = ⟨a.block, a.off + i * sz + j, none⟩ := by
      rw [hc]
      unfold Addr.add
      obtain ⟨ab, ao, asp⟩ := a
      simp only at hsp
      subst hsp
      by_cases h0 : i * sz = 0
      · by_cases h1 : j = 0
        · simp [h0, h1]
        · simp [h0, h1]
      · by_cases h1 : j = 0
        · simp [h0, h1]
        · simp [h0, h1]
    rw [e2] at h5
    exact σof_of h5
  refine .inr ⟨len, fun i => if h : i < len then (each i h).choose else default, ?_, fun i hi => ?_⟩
  · refine .sl sz len _ a cap (fun e j => ((cells (if h : e < len then (each e h).choose else default))[j]?).getD (.bool false)) hsp hl (fun i => by simp [hcl]) (fun e j c he hj => ?_) (fun e j c he hj => ?_) (fun e j c he hj => ?_)
    all_goals
      simp only [List.getElem?_map, Option.map_eq_some_iff] at hj
      obtain ⟨y, hy, rfl⟩ := hj
      rw [hy, Option.getD_some]
    · rw [dif_pos he] at hy
      exact (each e he).choose_spec.2 j y hy
    · rw [dif_pos he] at hy
      obtain ⟨k, hk'⟩ := (each e he).choose_spec.1.at j y hy
      exact goodV_one hk'
    · exact .v _
  · show GoodVs ks (cells (if h : i < len then (each i h).choose else default))
    rw [dif_pos hi]
    exact (each i hi).choose_spec.1
end
end Go.Eng

/- A function of an own slice that may be nil: from what it does to nil, and to an empty slice that is not nil. -/
namespace Go.Eng
open Go
set_option linter.unusedSimpArgs false
set_option linter.unusedVariables false
section
variable {P : Program} {Γ : Nat → AV}
theorem VL.one_inv {σ : Store} {φ : Places} {x : AV} {ys : List Value} (h : VL σ φ [x] ys) : ∃ y, ys = [y] ∧ V σ φ x y := by
  match ys, h with
  | [y], h => exact ⟨y, rfl, h.2 0 x y rfl rfl⟩
  | [], h => have := h.1; simp at this
  | _ :: _ :: _, h => have := h.1; simp at this
theorem Contract.nilOr {f : FuncId} {b : Blk} {sz : Nat} {z : List AV} (hz : z.length = sz) {M : List AV} (hM : M.length = sz) (h1 : Contract P Γ f [.v (.slice none 0 0)] [b] { val := .v (.slice none 0 0), upd := [some (some b)] })
    (h2 : Contract P Γ f [.sl sz 0 fun _ => M] [b] { val := .hs 1 0 0, upd := [some (some b)], new := [.arr sz 0 fun _ => z] }) :
    Contract P Γ f [.hs 0 0 0] [b] { val := .hs 1 0 0, upd := [some (some b)], new := [.arr sz 0 fun _ => z] } := by
  intro σ φ w vals hG hV hn hR
  obtain ⟨y, hy, hv⟩ := hV.one_inv
  have hsl : ∀ (A : Option Addr) (cap : Nat), A ≠ none → y = .slice A 0 cap → VL σ φ [.sl sz 0 fun _ => M] vals.toList := fun A cap hA e => by
    rw [hy, e]
    exact .one (.base (.slnil sz 0 _ A cap (fun _ => hM) rfl (fun h => absurd h hA))) .none
  cases hv with
  | base h => cases h
  | hs h hr _ he hx hc => exact h2 σ φ w vals hG (hsl _ _ (by simp) rfl) hn hR
  | hsnil A h he _ =>
    by_cases hA : A = none
    · subst hA
      refine (h1 σ φ w vals hG (by rw [hy]; exact .one (V_v _) .none) hn hR).mono fun e w' ⟨σ', φ', v, e1, e2, e3, e4, e5⟩ => ?_
      have hnb : φ' 1 = none := e5 1 (Nat.le_refl 1)
      have hv := e2.v_eq
      subst hv
      have hg : getH (Res.heap [b] { val := .hs 1 0 0, upd := [some (some b)], new := [.arr sz 0 fun _ => z] }) = updG (getH (Res.heap [b] { val := .v (.slice none 0 0), upd := [some (some b)] })) 1 (some (.arr sz 0 fun _ => z)) := by
        funext k
        have := getH_append (H := [some b]) (bs := [Blk.arr sz 0 fun _ => z]) (k := k)
        exact this
      refine ⟨σ', fresh φ' 1 ⟨0, 0, sz, 0, 0, true⟩, _, e1, .hsnil none fresh_at (Nat.le_refl 0) rfl, ?_, fun k hk => ?_, fun k hk => ?_⟩
      · rw [hg]
        exact e3.virtual (L := ⟨0, 0, sz, 0, 0, true⟩) hnb rfl (some (.arr sz 0 fun _ => z)) (fun b' hb' => by simp at hb'; subst hb'; exact fun _ => hz) (fun _ _ _ h' => by cases h'; rfl)
      · have hk' : k < 1 := hk
        have : k ≠ 1 := by omega
        simp only [fresh, this, if_false]
        exact e4 k hk
      · have hk' : 2 ≤ k := hk
        have : k ≠ 1 := by omega
        simp only [fresh, this, if_false]
        exact e5 k (by show 1 ≤ k; omega)
    · exact h2 σ φ w vals hG (hsl _ _ hA rfl) hn hR
theorem Answers.nilOr {f : FuncId} {b : Blk} {sz : Nat} {z : List AV} (hz : z.length = sz) {M : List AV} (hM : M.length = sz) (h1 : Answers P Γ f [.v (.slice none 0 0)] [b] (.v (.slice none 0 0)) [some b] [])
    (h2 : Answers P Γ f [.sl sz 0 fun _ => M] [b] (.hs 1 0 0) [some b] [.arr sz 0 fun _ => z]) : Answers P Γ f [.hs 0 0 0] [b] (.hs 1 0 0) [some b] [.arr sz 0 fun _ => z] where
  len := rfl
  enters := h1.enters
  ok := h1.ok.nilOr hz hM h2.ok
end
end Go.Eng

/- Lists as the contents of a row of elements. -/
namespace Go.Eng
open Go
set_option linter.unusedSimpArgs false
set_option linter.unusedVariables false
set_option linter.unusedSectionVars false
/-- the cells of a list's elements -/
def lsF {α : Type} [Inhabited α] (c : α → List AV) (l : List α) : Nat → List AV := fun j => c (l.getD j default)
/-- elements of one shape -/
structure Cod {α : Type} (c : α → List AV) (sz : Nat) : Prop where
  len : ∀ x, (c x).length = sz
  mix : ∀ b x y, mixL b (c x) (c y) = c (bif b then x else y)
section
variable {α : Type} [Inhabited α] {c : α → List AV} {sz : Nat}
theorem getD_app {l r : List α} {j : Nat} (h : j < l.length) : (l ++ r).getD j default = l.getD j default := by
  rw [List.getD_eq_getElem?_getD, List.getD_eq_getElem?_getD, List.getElem?_append_left h]
theorem getD_app' {l r : List α} {j : Nat} (h : l.length ≤ j) : (l ++ r).getD j default = r.getD (j - l.length) default := by
  rw [List.getD_eq_getElem?_getD, List.getD_eq_getElem?_getD, List.getElem?_append_right h]
theorem getD_get {l : List α} {j : Nat} (h : j < l.length) : l.getD j default = l[j] := by
  rw [List.getD_eq_getElem?_getD, List.getElem?_eq_getElem h]; rfl
/-- a row that shows a list -/
theorem Cod.row (h : Cod c sz) {N : Nat} {f : Nat → List AV} {l : List α} (hN : N = l.length) (hf : ∀ e, e < N → f e = lsF c l e) : OLe (some (.arr sz N f)) (some (.arr sz l.length (lsF c l))) := by
  subst hN
  exact .some (.arr (fun e he => by rw [hf e he]; exact LeL.refl _) fun e => h.len _)
theorem Cod.mixT (h : Cod c sz) (x y : α) : mixL true (c x) (c y) = c x := h.mix true x y
theorem Cod.mixF (h : Cod c sz) (x y : α) : mixL false (c x) (c y) = c y := h.mix false x y
theorem Cod.one (h : Cod c sz) (x z : α) : chain (c z) 0 [c x] 0 = c x := h.mixT x z
/-- append of one element -/
theorem Cod.app1 (h : Cod c sz) (l junk : List α) (x z : α) {n N : Nat} (hn : n = l.length) (hN : N = l.length + 1) :
    OLe (some (.arr sz N fun j => mixL (decide (j < n)) (lsF c (l ++ junk) j) (chain (c z) 0 [c x] (j - n)))) (some (.arr sz (l ++ [x]).length (lsF c (l ++ [x])))) := by
  subst hn; subst hN
  refine h.row (by simp) fun e he => ?_
  by_cases hl : e < l.length
  · simp only [decide_eq_true hl, lsF, Nat.zero_add, getD_app hl]
    have : chain (c z) 0 [c x] (e - l.length) = c x := by
      rw [show e - l.length = 0 by omega]; exact h.one x z
    rw [this]
    exact h.mixT _ _
  · have he' : e = l.length := by omega
    subst he'
    simp only [decide_eq_false hl, lsF, Nat.zero_add, Nat.sub_self, getD_app' (Nat.le_refl _)]
    rw [h.one]
    exact h.mixF _ _

theorem Cod.app0 (h : Cod c sz) (l : List α) (x z : α) {n N : Nat} (hn : n = l.length) (hN : N = l.length + 1) :
    OLe (some (.arr sz N fun j => mixL (decide (j < n)) (lsF c l j) (chain (c z) 0 [c x] (j - n)))) (some (.arr sz (l ++ [x]).length (lsF c (l ++ [x])))) := by
  have := h.app1 l [] x z hn hN
  rw [List.append_nil] at this
  exact this
theorem lsF_at (c : α → List AV) (l : List α) (j : Nat) : lsF c l j = c (l.getD j default) := rfl
/-- a copy -/
theorem Cod.clone (h : Cod c sz) (l junk : List α) (z : α) {N : Nat} (hn : N = l.length) :
    OLe (some (.arr sz N fun j => mixL (decide (j < 0)) (chain (c z) 0 [] j) (lsF c (l ++ junk) j))) (some (.arr sz l.length (lsF c l))) := by
  refine h.row hn fun e he => ?_
  rw [hn] at he
  simp only [Nat.zero_add, lsF_at, getD_app he]
  rw [decide_eq_false (Nat.not_lt_zero e)]
  exact h.mixF _ _
theorem getD_eraseIdx {l : List α} {i j : Nat} : (l.eraseIdx i).getD j default = if j < i then l.getD j default else l.getD (j + 1) default := by
  rw [List.getD_eq_getElem?_getD, List.getElem?_eraseIdx]
  split <;> rw [List.getD_eq_getElem?_getD]
theorem Cod.mixE (h : Cod c sz) {b : Bool} {x y : List AV} {u v : α} (hx : x = c u) (hy : y = c v) : mixL b x y = c (bif b then u else v) := by rw [hx, hy, h.mix]
/-- one goes -/
theorem Cod.del (h : Cod c sz) (l junk : List α) (z : α) {i n : Nat} (hn : n = l.length) (hi : i < l.length) :
    OLe (some (.arr sz (l ++ junk).length fun j => mixL (decide (i + (n - (i + 1)) ≤ j) && decide (j < i + (n - (i + 1)) + (n - (i + (n - (i + 1)))))) (c z)
      (mixL (decide (i ≤ j) && decide (j < i + (n - (i + 1)))) (lsF c (l ++ junk) (i + 1 + (j - i))) (lsF c (l ++ junk) j))))
      (some (.arr sz (l.eraseIdx i ++ (z :: junk)).length (lsF c (l.eraseIdx i ++ (z :: junk))))) := by
  subst hn
  have hle : (l.eraseIdx i).length = l.length - 1 := List.length_eraseIdx_of_lt hi
  refine h.row (by simp [hle]; omega) fun e he => ?_
  simp only [lsF_at, h.mix]
  refine congrArg c ?_
  simp only [cond_eq_ite, Bool.and_eq_true, decide_eq_true_eq]
  rcases Nat.lt_trichotomy e (l.length - 1) with h1 | h1 | h1
  · rw [if_neg (by omega), getD_app (l := l.eraseIdx i) (by omega), getD_eraseIdx]
    by_cases h2 : i ≤ e
    · rw [if_pos (by omega), if_neg (by omega), show i + 1 + (e - i) = e + 1 by omega, getD_app (by omega)]
    · rw [if_neg (by omega), if_pos (by omega), getD_app (by omega)]
  · rw [if_pos (by omega), getD_app' (l := l.eraseIdx i) (by omega), hle, h1, Nat.sub_self]
    rfl
  · rw [if_neg (by omega), if_neg (by omega), getD_app' (l := l.eraseIdx i) (by omega), getD_app' (by omega), hle]
    rw [show e - (l.length - 1) = (e - l.length) + 1 by omega]
    rfl
theorem chain_nil (z : List AV) (i k : Nat) : chain z i [] k = z := rfl
theorem Cod.chain1 (h : Cod c sz) (z x : α) (k : Nat) : chain (c z) 0 [c x] k = c (bif Nat.beq k 0 then x else z) := h.mix _ x z
/-- a copy, and one more -/
theorem Cod.app2 (h : Cod c sz) (l junk : List α) (x z z' : α) {n N : Nat} (hn : n = l.length) (hN : N = l.length + 1) :
    OLe (some (.arr sz N fun j => mixL (decide (j < n)) (mixL (decide (j < 0)) (chain (c z') 0 [] j) (lsF c (l ++ junk) j)) (chain (c z) 0 [c x] (j - n)))) (some (.arr sz (l ++ [x]).length (lsF c (l ++ [x])))) := by
  subst hn; subst hN
  refine h.row (by simp) fun e he => ?_
  simp only [lsF_at, chain_nil, h.chain1, h.mix]
  refine congrArg c ?_
  rw [decide_eq_false (Nat.not_lt_zero e)]
  simp only [cond_false]
  by_cases hl : e < l.length
  · rw [decide_eq_true hl, getD_app hl, getD_app hl]; rfl
  · have he' : e = l.length := by omega
    subst he'
    rw [decide_eq_false hl, getD_app' (l := l) (r := [x]) (Nat.le_refl _), Nat.sub_self]; rfl
/-- what stands ahead of a place, and what stands behind it -/
theorem Cod.del2 (h : Cod c sz) (l junk : List α) (z : α) {i N : Nat} (hi : i < l.length) (hN : N = l.length - 1) :
    OLe (some (.arr sz N fun j => mixL (decide (j < i)) (mixL (decide (j < 0)) (chain (c z) 0 [] j) (lsF c (l ++ junk) j)) (lsF c (l ++ junk) (i + 1 + (j - i))))) (some (.arr sz (l.eraseIdx i).length (lsF c (l.eraseIdx i)))) := by
  subst hN
  have hle : (l.eraseIdx i).length = l.length - 1 := List.length_eraseIdx_of_lt hi
  refine h.row hle.symm fun e he => ?_
  simp only [lsF_at, chain_nil, h.mix]
  refine congrArg c ?_
  rw [decide_eq_false (Nat.not_lt_zero e), getD_eraseIdx]
  simp only [cond_false]
  by_cases hl : e < i
  · rw [decide_eq_true hl, getD_app (by omega), if_pos hl]; rfl
  · rw [decide_eq_false hl, if_neg hl, show i + 1 + (e - i) = e + 1 by omega, getD_app (l := l) (r := junk) (j := e + 1) (by omega)]; rfl
theorem cl_false {p : Prop} : cl p = false ↔ ¬ p := by
  rw [← Bool.not_eq_true, cl_iff]
theorem sat_brT {β : Type} {t e : Tree β} {Q : β → Prop} : (Tree.br true t e).sat Q = t.sat Q := by simp
theorem sat_brF {β : Type} {t e : Tree β} {Q : β → Prop} : (Tree.br false t e).sat Q = e.sat Q := by simp
theorem sat_chkT {β : Type} {t : Tree β} {Q : β → Prop} : (Tree.chk true t).sat Q = t.sat Q := by simp
end
section
variable {P : Program} {Γ : Nat → AV} {X : Type} {S : X → List AV × Heap} {pre : X → Prop} {O : X → Out} {μ : X → Nat} {n : Nat} {o : Out} {fr : List AV} {H : Heap}
theorem owesN : OwesA S pre O μ n o ⟨.normal, fr, H⟩ = ∃ x', LeL fr (S x').1 ∧ LeH H (S x').2 ∧ pre x' ∧ O x' = o ∧ μ x' < n := rfl
theorem owesX {id : Nat} : OwesA S pre O μ n o ⟨.exit id, fr, H⟩ = (.exit id = o.ex ∧ LeL fr o.fr ∧ LeH H o.H) := rfl
theorem owesR : OwesA S pre O μ n o ⟨.ret, fr, H⟩ = (.ret = o.ex ∧ LeL fr o.fr ∧ LeH H o.H) := rfl
theorem RoundOK.of {m N k : Nat} {b : Code} {live : List Nat} {nils : List (Nat × TypeId)} {s : List AV × Heap} {Q : Out → Prop} {T : List (CT P Γ)} {L : Nat → LSpec} {ip : Bool}
    (hL : ∀ (j : Nat) (b' : Code), (loopBodies b)[j]? = some b' → LoopOK P Γ m N b' (L (k + j))) {t : Tree Out} (e : roundE T L ip m k b live nils N s.1 s.2 = t) (h : t.sat Q) : RoundOK P Γ m N k b live nils s Q :=
  ⟨T, L, ip, hL, by rw [e]; exact h⟩
end
/-- a list as an argument: nil, or a slice -/
def lArg {α : Type} [Inhabited α] (c : α → List AV) (sz : Nat) : Option (List α) → AV
  | none => .v (.slice none 0 0)
  | some l => .sl sz l.length (lsF c l)
theorem V0.slCongr {σ : Store} {sz m m' : Nat} {f f' : Nat → List AV} {v : Value} (h : V0 σ (.sl sz m f) v) (hm : m' = m) (he : ∀ e, e < m → f' e = f e) (hl : ∀ e, (f' e).length = sz) (hk : mkd (f' m') = false) : V0 σ (.sl sz m' f') v := by
  subst hm
  cases h with
  | sl _ _ _ ad cap ys hs hn _ hm ho hv => exact .sl sz _ f' ad cap ys hs hn hl (fun e j c h1 h2 => hm e j c h1 (he e h1 ▸ h2)) (fun e j c h1 h2 => ho e j c h1 (he e h1 ▸ h2)) (fun e j c h1 h2 => hv e j c h1 (he e h1 ▸ h2))
  | slnil _ _ _ A cap _ hn ha => exact .slnil sz _ f' A cap hl hn (fun _ => hk)
section
open Go.ChangeShapes
variable {H : Type} {enc : TypeId × Value → H} {P : Program} {w : World} {base : Nat} {sp : Nat → Bool} {held : Bool}
theorem open_slO {α : Type} [Inhabited α] (D : Nat) (cells : α → List Value) (c : α → List AV) {ks : List Cel} {sz : Nat} (hsz : ks.length = sz) (hcl : ∀ a, (cells a).length = sz) (hc0 : ∀ a, (cells a).map AV.v = c a) (hdec : ∀ vs, GoodVs ks vs → ∃ a, vs = cells a) (hm : mkd (c default) = false)
    {t e : TypeId} {v : Value} {r : Reach} {b0 : Nat} {d : DataW H} {ps : List MemPlace} (ht : P.underlying t = some (.slice e)) (hk : ckT P D e = some ks) (hc : P.cellsOf e = sz)
    (hval : Value.okWide P w r b0 t v) (h : DataW.Trod enc P w base sp held t v d ps) :
    ∃ x : Option (List α), V0 (σof w) (lArg c sz x) v ∧ ∀ l, x = some l → ∀ i, i < l.length → GoodVs ks (cells (l.getD i default)) := by
  rcases open_slG D cells hsz hcl hdec ht hk hc hval h with rfl | ⟨m, g, h1, h2⟩
  · exact ⟨none, .v _, fun l h => by simp at h⟩
  · have hg : ∀ e, e < m → ((List.range m).map g).getD e default = g e := fun e he => by
      rw [List.getD_eq_getElem?_getD, List.getElem?_map, List.getElem?_range he]; rfl
    refine ⟨some ((List.range m).map g), h1.slCongr (by simp) (fun e he => ?_) (fun e => by show (c _).length = sz; rw [← hc0]; simp [hcl]) (by rw [lsF_at, List.getD_eq_getElem?_getD, List.getElem?_eq_none (Nat.le_refl _)]; exact hm), fun l hl i hi => ?_⟩
    · rw [lsF_at, hg e he, hc0]
    · simp only [Option.some.injEq] at hl
      subst hl
      have hi' : i < m := by simpa using hi
      rw [hg i hi']
      exact h2 i hi'
theorem open_slL {α : Type} [Inhabited α] (D : Nat) (cells : α → List Value) (c : α → List AV) {ks : List Cel} {sz : Nat} (hsz : ks.length = sz) (hcl : ∀ a, (cells a).length = sz) (hc0 : ∀ a, (cells a).map AV.v = c a) (hdec : ∀ vs, GoodVs ks vs → ∃ a, vs = cells a) (hm : mkd (c default) = false)
    {t e : TypeId} {v : Value} {r : Reach} {b0 : Nat} {d : DataW H} {ps : List MemPlace} (ht : P.underlying t = some (.slice e)) (hk : ckT P D e = some ks) (hc : P.cellsOf e = sz)
    (hval : Value.okWide P w r b0 t v) (h : DataW.Trod enc P w base sp held t v d ps) :
    ∃ l : List α, V0 (σof w) (.sl sz l.length (lsF c l)) v ∧ ∀ i, i < l.length → GoodVs ks (cells (l.getD i default)) := by
  obtain ⟨x, h1, h2⟩ := open_slO D cells c hsz hcl hc0 hdec hm ht hk hc hval h
  cases x with
  | none =>
    cases h1
    exact ⟨[], .slnil sz 0 _ none 0 (fun e => by show (c _).length = sz; rw [← hc0]; simp [hcl]) rfl (fun _ => hm), fun i hi => absurd hi (Nat.not_lt_zero i)⟩
  | some l => exact ⟨l, h1, h2 l rfl⟩
end
theorem failOK {P : Program} {Γ : Nat → AV} {m N : Nat} {c : Code} {L : Nat → LSpec} (h : ∀ j, ∀ vals H, (L j).spec vals H = .fail) : ∀ (j : Nat) (b : Code), (loopBodies c)[j]? = some b → LoopOK P Γ m N b (L j) := fun j b _ vals H o ho => by
  rw [h j] at ho; simp [Tree.get] at ho
section
variable {P : Program} {Γ : Nat → AV}
theorem Contract.res {f : FuncId} {args : List AV} {Hin : List Blk} {r r' : Res} (h : Contract P Γ f args Hin r) (hv : AV.le r.val r'.val) (hH : LeH (r.heap Hin) (r'.heap Hin)) : Contract P Γ f args Hin r' := by
  intro σ φ w vals hG hV hn hR
  exact (h σ φ w vals hG hV hn hR).mono fun e w' ⟨σ', φ', v, e1, e2, e3, e4, e5⟩ => ⟨σ', φ', v, e1, hv.v e2, e3.le (fun i b' hb => hH.get i b' hb), e4, fun k hk => e5 k (by rw [hH.len]; exact hk)⟩
/-- a copy of a list -/
noncomputable def cloneSpecL {α : Type} [Inhabited α] (c : α → List AV) (sz : Nat) (args : List AV) (Hin : List Blk) : Tree Res := match args with
  | [.hs i e n] => match Hin with
    | [.arr sz' N f] => .chk (Nat.beq i 0 && Nat.beq e 0 && Nat.beq sz' sz) (.chk (cl (n ≤ 1000000000 ∧ ∃ l junk : List α, n = l.length ∧ N = (l ++ junk).length ∧ ∀ e, f e = c ((l ++ junk).getD e default))) (.leaf { val := .hs 1 0 n, new := [.arr sz n f] }))
    | _ => .fail
  | _ => .fail
noncomputable def CT.clone {α : Type} [Inhabited α] {c : α → List AV} {sz : Nat} (hc : Cod c sz) (f : FuncId) (h : ∀ l junk : List α, l.length ≤ 1000000000 → Answers P Γ f [.hs 0 0 l.length] [.arr sz (l ++ junk).length (lsF c (l ++ junk))] (.hs 1 0 l.length) [some (.arr sz (l ++ junk).length (lsF c (l ++ junk)))] [.arr sz l.length (lsF c l)]) : CT P Γ where
  f := f
  spec := cloneSpecL c sz
  enters := (h [] [] (by simp)).enters
  ok := fun args Hin r hr => by
    unfold cloneSpecL at hr
    split at hr
    · split at hr
      · obtain ⟨h1, hr⟩ := Tree.chk_get hr
        obtain ⟨h2, hr⟩ := Tree.chk_get hr
        obtain rfl := Tree.leaf_get hr
        obtain ⟨hn, l, junk, rfl, rfl, hf⟩ := cl_iff.1 h2
        simp only [Bool.and_eq_true] at h1
        obtain rfl := Nat.eq_of_beq_eq_true h1.1.1
        obtain rfl := Nat.eq_of_beq_eq_true h1.1.2
        obtain rfl := Nat.eq_of_beq_eq_true h1.2
        obtain rfl : _ = lsF c (l ++ junk) := funext hf
        refine (h l junk hn).ok.res (.refl _) ⟨OLe.refl _, ?_, trivial⟩
        exact OLe.arr rfl (fun e he => by rw [lsF_at, lsF_at, getD_app he]) (fun e => hc.len _)
      · simp [Tree.get] at hr
    · simp [Tree.get] at hr
end
theorem twoLoops {P : Program} {Γ : Nat → AV} {m N : Nat} {c b b' : Code} {L : Nat → LSpec} (h : loopBodies c = [b, b']) (h0 : LoopOK P Γ m N b (L 0)) (h1 : LoopOK P Γ m N b' (L 1)) : ∀ (j : Nat) (b : Code), (loopBodies c)[j]? = some b → LoopOK P Γ m N b (L j) := by
  intro j b hj
  rw [h] at hj
  match j, hj with
  | 0, hj => simp at hj; subst hj; exact h0
  | 1, hj => simp at hj; subst hj; exact h1
  | j + 2, hj => simp at hj
theorem threeLoops {P : Program} {Γ : Nat → AV} {m N : Nat} {c b b' b2 : Code} {L : Nat → LSpec} (h : loopBodies c = [b, b', b2]) (h0 : LoopOK P Γ m N b (L 0)) (h1 : LoopOK P Γ m N b' (L 1)) (h2 : LoopOK P Γ m N b2 (L 2)) : ∀ (j : Nat) (b : Code), (loopBodies c)[j]? = some b → LoopOK P Γ m N b (L j) := by
  intro j b hj
  rw [h] at hj
  match j, hj with
  | 0, hj => simp at hj; subst hj; exact h0
  | 1, hj => simp at hj; subst hj; exact h1
  | 2, hj => simp at hj; subst hj; exact h2
  | j + 3, hj => simp at hj
section
variable {P : Program} {Γ : Nat → AV}
/-- a function's summary for each of a family of calls -/
noncomputable def parSpec {X : Type} (ext : List AV → List Blk → Option X) (pre : X → Prop) (A : X → List AV) (H0 : X → List Blk) (v : X → AV) (H1 : X → List (Option Blk)) (new : X → List Blk) (args : List AV) (Hin : List Blk) : Tree Res :=
  match ext args Hin with
  | some x => .chk (cl (pre x ∧ LeL args (A x) ∧ LeH (Hin.map some) ((H0 x).map some))) (.leaf { val := v x, upd := (H1 x).map some, new := new x })
  | none => .fail
noncomputable def CT.par {X : Type} (f : FuncId) (ext : List AV → List Blk → Option X) (pre : X → Prop) (A : X → List AV) (H0 : X → List Blk) (v : X → AV) (H1 : X → List (Option Blk)) (new : X → List Blk)
    (enters : ∀ (args : Array Value) (w : World), (callFunc f args).run P w = .ok (.enter f args) w) (h : ∀ x, pre x → Answers P Γ f (A x) (H0 x) (v x) (H1 x) (new x)) : CT P Γ where
  f := f
  spec := parSpec ext pre A H0 v H1 new
  enters := enters
  ok := fun args Hin r hr => by
    unfold parSpec at hr
    split at hr
    · rename_i x hx
      obtain ⟨h1, hr⟩ := Tree.chk_get hr
      obtain ⟨hp, hv, hH⟩ := cl_iff.1 h1
      exact (CT.at f (h x hp)).ok args Hin r (by
        show (atSpec (A x) (H0 x) (v x) (H1 x) (new x) args Hin).get = some r
        unfold atSpec
        rw [cl_iff.2 ⟨hv, hH⟩]
        exact hr)
    · simp [Tree.get] at hr
end
theorem sat_brN {β : Type} {c : Bool} {t e : Tree β} {Q : β → Prop} : (Tree.br c t e).sat Q = ((c = true → t.sat Q) ∧ (¬ c = true → e.sat Q)) := by
  cases c <;> simp
theorem notT {b : Bool} : ((!b) = true) = ¬ (b = true) := by cases b <;> simp
end Go.Eng

/- A call with a nil slice in a row: from what it does where the slice has a block of its own. -/
namespace Go.Eng
open Go
set_option linter.unusedSimpArgs false
set_option linter.unusedVariables false
section
variable {P : Program} {Γ : Nat → AV}
theorem getHmap (l : List Blk) (k : Nat) : getH (l.map some) k = l[k]? := by
  unfold getH
  rw [List.getElem?_map]
  cases l[k]? <;> rfl
theorem Contract.box {f : FuncId} {args : List AV} {Hin : List Blk} {i c sz : Nat} {cs : List AV} {g : Nat → List AV} {r r' : Res} (hg : Hin[i]? = some (.row cs)) (hc : cs[c]? = some (.v (.slice none 0 0))) (hz : ∀ e, (g e).length = sz)
    (h : Contract P Γ f args (Hin.set i (.row (cs.set c (.hs Hin.length 0 0))) ++ [.arr sz 0 g]) r) (hv : r'.val = r.val) (hh : r'.heap Hin = r.heap (Hin.set i (.row (cs.set c (.hs Hin.length 0 0))) ++ [.arr sz 0 g])) :
    Contract P Γ f args Hin r' := by
  intro σ φ w vals hG hV hn hR
  have hnb := hn Hin.length (Nat.le_refl _)
  let L0 : Lc := ⟨0, 0, sz, 0, 0, true⟩
  have hle := fresh_le hnb L0
  have hB : (fun b => ∃ k L, φ k = some L ∧ L.virt = false ∧ L.b = b) = (fun b => ∃ k L, fresh φ Hin.length L0 k = some L ∧ L.virt = false ∧ L.b = b) := by
    funext b
    refine propext ⟨fun ⟨k, L, h1, h2, h3⟩ => ⟨k, L, hle k L h1, h2, h3⟩, fun ⟨k, L, h1, h2, h3⟩ => ?_⟩
    by_cases e : k = Hin.length
    · subst e
      rw [fresh_at] at h1
      cases h1
      simp [L0] at h2
    · simp only [fresh, e, if_false] at h1
      exact ⟨k, L, h1, h2, h3⟩
  have hR1 := hR.virtual (L := L0) hnb rfl (some (.arr sz 0 g)) (fun b' hb' => by simp at hb'; subst hb'; exact hz) (fun _ _ _ h' => by cases h'; rfl)
  have hg1 : updG (getH (Hin.map some)) Hin.length (some (Blk.arr sz 0 g)) = getH (Hin.map some ++ [some (Blk.arr sz 0 g)]) := by
    have := fun j => getH_append (H := Hin.map some) (bs := [Blk.arr sz 0 g]) (k := j)
    funext j
    have h1 := this j
    rw [List.length_map] at h1
    exact h1.symm
  rw [hg1] at hR1
  have hil : i < Hin.length := (List.getElem?_eq_some_iff.1 hg).1
  have hg2 : getH (Hin.map some ++ [some (Blk.arr sz 0 g)]) i = some (.row cs) := by
    rw [← hg1]
    have : i ≠ Hin.length := by omega
    simp only [updG, this, if_false]
    rw [getHmap, hg]
  have hR2 := hR1.setRow (x' := .hs Hin.length 0 0) hg2 hc (fun y hy => by
    have := hy.v_eq
    subst this
    exact .hsnil none fresh_at (Nat.le_refl 0) rfl)
  have hH : (Hin.map some ++ [some (Blk.arr sz 0 g)]).set i (some (.row (cs.set c (.hs Hin.length 0 0)))) = (Hin.set i (.row (cs.set c (.hs Hin.length 0 0))) ++ [Blk.arr sz 0 g]).map some := by
    rw [List.set_append_left _ _ (by simpa using hil), List.map_append, List.map_set]
    rfl
  rw [hH] at hR2
  have hlen : (Hin.set i (.row (cs.set c (.hs Hin.length 0 0))) ++ [Blk.arr sz 0 g]).length = Hin.length + 1 := by simp
  rw [hB] at hR2 ⊢
  refine (h σ (fresh φ Hin.length L0) w vals hG ⟨hV.1, fun j a y ha hy => (hV.2 j a y ha hy).mono (Store.le_refl σ) hle⟩ (fun k hk => ?_) hR2).mono fun e w' ⟨σ', φ', v, e1, e2, e3, e4, e5⟩ => ⟨σ', φ', v, e1, by rw [hv]; exact e2, by rw [hh]; exact e3, fun k hk => ?_, by rw [hh]; exact e5⟩
  · rw [hlen] at hk
    have : k ≠ Hin.length := by omega
    simp only [fresh, this, if_false]
    exact hn k (by omega)
  · rw [e4 k (by rw [hlen]; omega)]
    have : k ≠ Hin.length := by omega
    simp only [fresh, this, if_false]
theorem Answers.box {f : FuncId} {args : List AV} {Hin : List Blk} (i c : Nat) {sz : Nat} {cs : List AV} {g : Nat → List AV} {v : AV} {H1 : List (Option Blk)} {b : Blk} {new : List Blk} (hg : Hin[i]? = some (.row cs)) (hc : cs[c]? = some (.v (.slice none 0 0))) (hz : ∀ e, (g e).length = sz) (hl : H1.length = Hin.length)
    (h : Answers P Γ f args (Hin.set i (.row (cs.set c (.hs Hin.length 0 0))) ++ [.arr sz 0 g]) v (H1 ++ [some b]) new) : Answers P Γ f args Hin v H1 (b :: new) where
  len := hl
  enters := h.enters
  ok := h.ok.box hg hc hz rfl (by
    show outOf Hin (H1.map some) ++ _ = outOf _ ((H1 ++ [some b]).map some) ++ _
    rw [outOf_all _ _ hl, outOf_all _ _ (by simp [hl])]
    simp)
end
section
open Go.ChangeShapes Go.RowKit
variable {H : Type} {enc : TypeId × Value → H} {P : Program} {w : World} {base : Nat} {spare : Nat → Bool} {held : Bool}
theorem trodAll_five {t0 t1 t2 t3 t4 : TypeId} {args : Array Value} {ds : List (DataW H)} {ps : List MemPlace} (h : DataW.TrodAll enc P w base spare held [t0, t1, t2, t3, t4] args.toList ds ps) :
    ∃ v0 v1 v2 v3 v4 d0 d1 d2 d3 d4 p0 p1 p2 p3 p4, args = #[v0, v1, v2, v3, v4] ∧ ds = [d0, d1, d2, d3, d4] ∧ ps = p0 ++ p1 ++ p2 ++ p3 ++ p4 ∧ DataW.Trod enc P w base spare held t0 v0 d0 p0 ∧ DataW.Trod enc P w base spare held t1 v1 d1 p1 ∧
      DataW.Trod enc P w base spare held t2 v2 d2 p2 ∧ DataW.Trod enc P w base spare held t3 v3 d3 p3 ∧ DataW.Trod enc P w base spare held t4 v4 d4 p4 := by
  obtain ⟨v0, s0, d0, e0, p0, q0, hargs, rfl, rfl, h0, r0⟩ := trodAll_cons h
  obtain ⟨v1, s1, d1, e1, p1, q1, rfl, rfl, rfl, h1, r1⟩ := trodAll_cons r0
  obtain ⟨v2, s2, d2, e2, p2, q2, rfl, rfl, rfl, h2, r2⟩ := trodAll_cons r1
  obtain ⟨v3, s3, d3, e3, p3, q3, rfl, rfl, rfl, h3, r3⟩ := trodAll_cons r2
  obtain ⟨v4, s4, d4, e4, p4, q4, rfl, rfl, rfl, h4, r4⟩ := trodAll_cons r3
  obtain ⟨rfl, rfl, rfl⟩ := trodAll_nil r4
  exact ⟨v0, v1, v2, v3, v4, d0, d1, d2, d3, d4, p0, p1, p2, p3, p4, by cases args; simp_all, rfl, by simp, h0, h1, h2, h3, h4⟩
end
end Go.Eng

/- fetch: one that is wanted: what a tick does. -/
namespace Go.Eng.F
open Go Go.Eng Go.Eng.M Go.Proofs
set_option linter.unusedSimpArgs false
set_option linter.unusedVariables false
noncomputable def k7 : CT Try.prog Γf := CT.auto false 3 3 [FetQ.c8] 7 Try.f7 (bodyOf Try.f7) false 34 [.tmp 8, .tmp 9] Try.func7 (by kernel_rfl) (by kernel_rfl) (by kernel_rfl) (by kernel_rfl)
noncomputable def k34 : CT Try.prog Γf := CT.auto false 3 3 [] 34 Try.f34 (bodyOf Try.f34) false 9 [.tmp 4] Try.func34 (by kernel_rfl) (by kernel_rfl) (by kernel_rfl) (by kernel_rfl)
noncomputable def k33 : CT Try.prog Γf := CT.auto false 3 3 [k34] 33 Try.f33 (bodyOf Try.f33) false 49 [.tmp 6, .tmp 7] Try.func33 (by kernel_rfl) (by kernel_rfl) (by kernel_rfl) (by kernel_rfl)
noncomputable def k21 : CT Try.prog Γf := CT.auto false 3 3 [k33, k34] 21 Try.f21 (bodyOf Try.f21) false 14 [.tmp 4, .tmp 5] Try.func21 (by kernel_rfl) (by kernel_rfl) (by kernel_rfl) (by kernel_rfl)
noncomputable def k22 : CT Try.prog Γf := CT.auto false 3 3 [] 22 Try.f22 (bodyOf Try.f22) false 95 [.tmp 6] Try.func22 (by kernel_rfl) (by kernel_rfl) (by kernel_rfl) (by kernel_rfl)
noncomputable def k9 : CT Try.prog Γf := CT.auto false 3 3 [k21, k22] 9 Try.f9 (bodyOf Try.f9) false 44 [.tmp 4] Try.func9 (by kernel_rfl) (by kernel_rfl) (by kernel_rfl) (by kernel_rfl)
noncomputable def k28 : CT Try.prog Γf := CT.auto false 3 3 [] 28 Try.f28 (bodyOf Try.f28) false 11 [.tmp 3] Try.func28 (by kernel_rfl) (by kernel_rfl) (by kernel_rfl) (by kernel_rfl)
noncomputable def k24 : CT Try.prog Γf := CT.auto false 3 3 [k28] 24 Try.f24 (bodyOf Try.f24) false 19 [.tmp 4] Try.func24 (by kernel_rfl) (by kernel_rfl) (by kernel_rfl) (by kernel_rfl)
noncomputable def k27 : CT Try.prog Γf := CT.auto false 3 3 [k24, k28] 27 Try.f27 (bodyOf Try.f27) false 42 [.tmp 4] Try.func27 (by kernel_rfl) (by kernel_rfl) (by kernel_rfl) (by kernel_rfl)
noncomputable def k16 : CT Try.prog Γf := CT.auto false 3 3 [] 16 Try.f16 (bodyOf Try.f16) false 24 [.tmp 2] Try.func16 (by kernel_rfl) (by kernel_rfl) (by kernel_rfl) (by kernel_rfl)
abbrev FW (n t : Int) : Blk := .arr 2 1 fun _ => [.v (.int .i64 n), .v (.int .i64 t)]
abbrev FR (b : Nat) (all me mo : Int) : Blk := .row [.v (.int .i64 all), .v (.int .i64 me), .v (.int .i64 4), .v (.int .i64 mo), .hs b 0 1]
abbrev FI (all me mo n t : Int) : List Blk := [FW n t, .row [.ptr 2 0], FR 0 all me mo]
abbrev AI : List AV := [.hs 0 0 1, .fn 28 [] [.ptr 1 0]]
theorem run24 (all me mo n t : Int) : bodyE (P := Try.prog) (Γ := Γf) [k28] (autoL false 2 [k28] false 3 19 (loopBodies (bodyOf Try.f24)) 1) false 19 [.tmp 4] (bodyOf Try.f24) AI (FI all me mo n t) =
  Tree.br true (Tree.chk true (Tree.br (decide (mo ≤ t)) (Tree.leaf (Ans.mk (AV.v (Value.int IntKind.i64 (0 : Int))) [some (Blk.arr (2 : Nat) (1 : Nat) fun x => [AV.v (Value.int IntKind.i64
    n), AV.v (Value.int IntKind.i64 t)]), some (Blk.row [AV.ptr (2 : Nat) (0 : Nat)]), some (Blk.row [AV.v (Value.int IntKind.i64 all), AV.v (Value.int IntKind.i64 me), AV.v (Value.int
    IntKind.i64 (4 : Int)), AV.v (Value.int IntKind.i64 mo), AV.hs (0 : Nat) (0 : Nat) (1 : Nat)])])) (Tree.br false (Tree.chk false (Tree.br (decide (mo ≤ t)) (Tree.leaf (Ans.mk (AV.v
    (Value.int IntKind.i64 (IntKind.wrap IntKind.i64 ((0 : Int) + (1 : Int))))) [some (Blk.arr (2 : Nat) (1 : Nat) fun x => [AV.v (Value.int IntKind.i64 n), AV.v (Value.int IntKind.i64 t)]),
    some (Blk.row [AV.ptr (2 : Nat) (0 : Nat)]), some (Blk.row [AV.v (Value.int IntKind.i64 all), AV.v (Value.int IntKind.i64 me), AV.v (Value.int IntKind.i64 (4 : Int)), AV.v (Value.int
    IntKind.i64 mo), AV.hs (0 : Nat) (0 : Nat) (1 : Nat)])])) Tree.fail)) (Tree.leaf (Ans.mk (AV.v (Value.int IntKind.i64 (-1 : Int))) [some (Blk.arr (2 : Nat) (1 : Nat) fun x => [AV.v
    (Value.int IntKind.i64 n), AV.v (Value.int IntKind.i64 t)]), some (Blk.row [AV.ptr (2 : Nat) (0 : Nat)]), some (Blk.row [AV.v (Value.int IntKind.i64 all), AV.v (Value.int IntKind.i64
    me), AV.v (Value.int IntKind.i64 (4 : Int)), AV.v (Value.int IntKind.i64 mo), AV.hs (0 : Nat) (0 : Nat) (1 : Nat)])]))))) (Tree.leaf (Ans.mk (AV.v (Value.int IntKind.i64 (-1 : Int)))
    [some (Blk.arr (2 : Nat) (1 : Nat) fun x => [AV.v (Value.int IntKind.i64 n), AV.v (Value.int IntKind.i64 t)]), some (Blk.row [AV.ptr (2 : Nat) (0 : Nat)]), some (Blk.row [AV.v (Value.int
    IntKind.i64 all), AV.v (Value.int IntKind.i64 me), AV.v (Value.int IntKind.i64 (4 : Int)), AV.v (Value.int IntKind.i64 mo), AV.hs (0 : Nat) (0 : Nat) (1 : Nat)])])) := by kernel_rfl
theorem ans24y {all me mo n t : Int} (h : mo ≤ t) : Answers Try.prog Γf 24 AI (FI all me mo n t) (.v (.int .i64 0)) ((FI all me mo n t).map some) [] :=
  answers (fn := Try.f24) (c := bodyOf Try.f24) (ntmps := 19) (results := [.tmp 4]) [k28] (autoL false 2 [k28] false 3 19 (loopBodies (bodyOf Try.f24)) 1) false Try.func24 (by kernel_rfl) (by kernel_rfl) (by kernel_rfl) (by kernel_rfl) (by simp) rfl (autoL_ok 1) <| Meets.of (run24 all me mo n t) <| by
    simp only [or_true, true_or, false_or, or_false, and_false, false_and, cond_true, cond_false, Bool.not_true, Bool.not_false, Bool.false_eq_true, Bool.true_eq_false, not_true_eq_false, not_false_eq_true, false_implies, true_implies, implies_true, Nat.blt_eq, owesN, owesX, owesR, notT, sat_brT, sat_brF, sat_chkT, cl_iff, cl_false, AV.le_refl, AV.le_any, OLe_refl, OLe_none, sat_brN, Tree.sat_chk, Tree.sat_leaf, Tree.sat_fail, Nat.zero_add, Nat.sub_zero, Int.toNat_natCast, LeH_cons, LeH_nil, LeL_cons, LeL_nil, and_true, true_and, Bool.and_eq_true, Bool.or_eq_true, decide_eq_true_eq, decide_eq_false_iff_not, Bool.cond_true_left, Bool.cond_false_right, List.cons_append, List.nil_append, List.map_cons, List.map_nil]
    repeat' (first | apply And.intro | intro _hc)
    all_goals first | omega | contradiction | exact AV.le_refl _ | exact AV.le_any _ | exact OLe.refl _ | exact OLe.none _ | exact LeH.refl _ | exact LeL.refl _ | exact AV.le.bs _ | exact AV.le.sb _ | (exfalso; omega) | contradiction
theorem ans24n {all me mo n t : Int} (h : ¬ mo ≤ t) : Answers Try.prog Γf 24 AI (FI all me mo n t) (.v (.int .i64 (-1))) ((FI all me mo n t).map some) [] :=
  answers (fn := Try.f24) (c := bodyOf Try.f24) (ntmps := 19) (results := [.tmp 4]) [k28] (autoL false 2 [k28] false 3 19 (loopBodies (bodyOf Try.f24)) 1) false Try.func24 (by kernel_rfl) (by kernel_rfl) (by kernel_rfl) (by kernel_rfl) (by simp) rfl (autoL_ok 1) <| Meets.of (run24 all me mo n t) <| by
    simp only [or_true, true_or, false_or, or_false, and_false, false_and, cond_true, cond_false, Bool.not_true, Bool.not_false, Bool.false_eq_true, Bool.true_eq_false, not_true_eq_false, not_false_eq_true, false_implies, true_implies, implies_true, Nat.blt_eq, owesN, owesX, owesR, notT, sat_brT, sat_brF, sat_chkT, cl_iff, cl_false, AV.le_refl, AV.le_any, OLe_refl, OLe_none, sat_brN, Tree.sat_chk, Tree.sat_leaf, Tree.sat_fail, Nat.zero_add, Nat.sub_zero, Int.toNat_natCast, LeH_cons, LeH_nil, LeL_cons, LeL_nil, and_true, true_and, Bool.and_eq_true, Bool.or_eq_true, decide_eq_true_eq, decide_eq_false_iff_not, Bool.cond_true_left, Bool.cond_false_right, List.cons_append, List.nil_append, List.map_cons, List.map_nil]
    repeat' (first | apply And.intro | intro _hc)
    all_goals first | omega | contradiction | exact AV.le_refl _ | exact AV.le_any _ | exact OLe.refl _ | exact OLe.none _ | exact LeH.refl _ | exact LeL.refl _ | exact AV.le.bs _ | exact AV.le.sb _ | (exfalso; omega) | contradiction
theorem run27n (all me mo n t : Int) (h : ¬ mo ≤ t) : bodyE (P := Try.prog) (Γ := Γf) [CT.at 24 (ans24n (all := all) (me := me) (n := n) h)] Lno false 42 [.tmp 4] (bodyOf Try.f27) AI (FI all me mo n t) =
  Tree.chk (cl (LeL [AV.hs (0 : Nat) (0 : Nat) (1 : Nat), AV.fn (28 : FuncId) [] [AV.ptr (1 : Nat) (0 : Nat)]] [AV.hs (0 : Nat) (0 : Nat) (1 : Nat), AV.fn (28 : FuncId) [] [AV.ptr (1 : Nat) (0
    : Nat)]] ∧ LeH [some (Blk.arr (2 : Nat) (1 : Nat) fun x => [AV.v (Value.int IntKind.i64 n), AV.v (Value.int IntKind.i64 t)]), some (Blk.row [AV.ptr (2 : Nat) (0 : Nat)]), some (Blk.row
    [AV.v (Value.int IntKind.i64 all), AV.v (Value.int IntKind.i64 me), AV.v (Value.int IntKind.i64 (4 : Int)), AV.v (Value.int IntKind.i64 mo), AV.hs (0 : Nat) (0 : Nat) (1 : Nat)])] [some
    (Blk.arr (2 : Nat) (1 : Nat) fun x => [AV.v (Value.int IntKind.i64 n), AV.v (Value.int IntKind.i64 t)]), some (Blk.row [AV.ptr (2 : Nat) (0 : Nat)]), some (Blk.row [AV.v (Value.int
    IntKind.i64 all), AV.v (Value.int IntKind.i64 me), AV.v (Value.int IntKind.i64 (4 : Int)), AV.v (Value.int IntKind.i64 mo), AV.hs (0 : Nat) (0 : Nat) (1 : Nat)])])) (Tree.br true
    (Tree.leaf (Ans.mk (AV.hs (0 : Nat) (0 : Nat) (1 : Nat)) [some (Blk.arr (2 : Nat) (1 : Nat) fun x => [AV.v (Value.int IntKind.i64 n), AV.v (Value.int IntKind.i64 t)]), some (Blk.row
    [AV.ptr (2 : Nat) (0 : Nat)]), some (Blk.row [AV.v (Value.int IntKind.i64 all), AV.v (Value.int IntKind.i64 me), AV.v (Value.int IntKind.i64 (4 : Int)), AV.v (Value.int IntKind.i64 mo),
    AV.hs (0 : Nat) (0 : Nat) (1 : Nat)])])) Tree.fail) := by kernel_rfl
noncomputable def loopOf (c : Code) (j : Nat) : Code := match (loopBodies c)[j]? with | some b => b | none => .skip
noncomputable abbrev lp27 : Code := loopOf (bodyOf Try.f27) 0
def S27 (all me mo n t : Int) : List AV × Heap := ([.hs 0 0 1, .fn 28 [] [.ptr 1 0], .v (.int .i64 0), .v (.int .i64 1), .any], (FI all me mo n t).map some)
def O27 (all me mo n t : Int) : Out := ⟨.exit 0, [.hs 0 0 1, .any, .v (.int .i64 0), .any, .any], (FI all me mo n t).map some⟩
abbrev lv27 : List Nat := [0, 1, 5, 6, 4]
theorem r27 (all me mo n t : Int) : roundE (P := Try.prog) (Γ := Γf) [] Lno false 3 0 lp27 lv27 [] 42 (S27 all me mo n t).1 (S27 all me mo n t).2 =
  Tree.br false (Tree.chk false Tree.fail) (Tree.leaf (Out.mk (AEx.exit (0 : Nat)) [AV.hs (0 : Nat) (0 : Nat) (1 : Nat), AV.fn (28 : FuncId) [] [AV.ptr (1 : Nat) (0 : Nat)], AV.v (Value.int
    IntKind.i64 (0 : Int)), AV.v (Value.int IntKind.i64 (1 : Int)), AV.any] [some (Blk.arr (2 : Nat) (1 : Nat) fun x => [AV.v (Value.int IntKind.i64 n), AV.v (Value.int IntKind.i64 t)]),
    some (Blk.row [AV.ptr (2 : Nat) (0 : Nat)]), some (Blk.row [AV.v (Value.int IntKind.i64 all), AV.v (Value.int IntKind.i64 me), AV.v (Value.int IntKind.i64 (4 : Int)), AV.v (Value.int
    IntKind.i64 mo), AV.hs (0 : Nat) (0 : Nat) (1 : Nat)])])) := by kernel_rfl
theorem loop27 (all me mo n t : Int) : LoopOK Try.prog Γf 3 42 lp27 (LSpec.at lv27 [] (S27 all me mo n t) (O27 all me mo n t)) := by
  refine loop_at (S := fun _ : Unit => S27 all me mo n t) (O := fun _ => O27 all me mo n t) (pre := fun _ => True) (k := 0) (fun _ => 0) (fun x _ => .of (L := Lno) (failOK fun _ _ _ => rfl) (r27 all me mo n t) ?_) () trivial
  simp only [or_true, true_or, false_or, or_false, and_false, false_and, cond_true, cond_false, Bool.not_true, Bool.not_false, Bool.false_eq_true, Bool.true_eq_false, not_true_eq_false, not_false_eq_true, false_implies, true_implies, implies_true, Nat.blt_eq, owesN, owesX, owesR, notT, sat_brT, sat_brF, sat_chkT, cl_iff, cl_false, AV.le_refl, AV.le_any, OLe_refl, OLe_none, sat_brN, Tree.sat_chk, Tree.sat_leaf, Tree.sat_fail, Nat.zero_add, Nat.sub_zero, Int.toNat_natCast, LeH_cons, LeH_nil, LeL_cons, LeL_nil, and_true, true_and, Bool.and_eq_true, Bool.or_eq_true, decide_eq_true_eq, decide_eq_false_iff_not, Bool.cond_true_left, Bool.cond_false_right, List.cons_append, List.nil_append, List.map_cons, List.map_nil]
  repeat' (first | apply And.intro | intro _hc)
  all_goals first | omega | contradiction | exact AV.le_refl _ | exact AV.le_any _ | exact OLe.refl _ | exact OLe.none _ | exact LeH.refl _ | exact LeL.refl _ | exact AV.le.bs _ | exact AV.le.sb _ | exact rfl | (exfalso; omega) | contradiction
theorem ans27n {all me mo n t : Int} (h : ¬ mo ≤ t) : Answers Try.prog Γf 27 AI (FI all me mo n t) (.hs 0 0 1) ((FI all me mo n t).map some) [] :=
  answers (fn := Try.f27) (c := bodyOf Try.f27) (ntmps := 42) (results := [.tmp 4]) [CT.at 24 (ans24n (all := all) (me := me) (n := n) h)] (Lno) false Try.func27 (by kernel_rfl) (by kernel_rfl) (by kernel_rfl) (by kernel_rfl) (by simp) rfl (failOK fun _ _ _ => rfl) <| Meets.of (run27n all me mo n t h) <| by
    simp only [or_true, true_or, false_or, or_false, and_false, false_and, cond_true, cond_false, Bool.not_true, Bool.not_false, Bool.false_eq_true, Bool.true_eq_false, not_true_eq_false, not_false_eq_true, false_implies, true_implies, implies_true, Nat.blt_eq, owesN, owesX, owesR, notT, sat_brT, sat_brF, sat_chkT, cl_iff, cl_false, AV.le_refl, AV.le_any, OLe_refl, OLe_none, sat_brN, Tree.sat_chk, Tree.sat_leaf, Tree.sat_fail, Nat.zero_add, Nat.sub_zero, Int.toNat_natCast, LeH_cons, LeH_nil, LeL_cons, LeL_nil, and_true, true_and, Bool.and_eq_true, Bool.or_eq_true, decide_eq_true_eq, decide_eq_false_iff_not, Bool.cond_true_left, Bool.cond_false_right, List.cons_append, List.nil_append, List.map_cons, List.map_nil]
    repeat' (first | apply And.intro | intro _hc)
    all_goals first | omega | contradiction | exact AV.le_refl _ | exact AV.le_any _ | exact OLe.refl _ | exact OLe.none _ | exact LeH.refl _ | exact LeL.refl _ | exact AV.le.bs _ | exact AV.le.sb _ | (exfalso; omega) | contradiction
theorem run27y (all me mo n t : Int) (h : mo ≤ t) : bodyE (P := Try.prog) (Γ := Γf) [CT.at 24 (ans24y (all := all) (me := me) (n := n) h)] (fun _ => LSpec.at lv27 [] (S27 all me mo n t) (O27 all me mo n t)) false 42 [.tmp 4] (bodyOf Try.f27) AI (FI all me mo n t) =
  Tree.chk (cl (LeL [AV.hs (0 : Nat) (0 : Nat) (1 : Nat), AV.fn (28 : FuncId) [] [AV.ptr (1 : Nat) (0 : Nat)]] [AV.hs (0 : Nat) (0 : Nat) (1 : Nat), AV.fn (28 : FuncId) [] [AV.ptr (1 : Nat) (0
    : Nat)]] ∧ LeH [some (Blk.arr (2 : Nat) (1 : Nat) fun x => [AV.v (Value.int IntKind.i64 n), AV.v (Value.int IntKind.i64 t)]), some (Blk.row [AV.ptr (2 : Nat) (0 : Nat)]), some (Blk.row
    [AV.v (Value.int IntKind.i64 all), AV.v (Value.int IntKind.i64 me), AV.v (Value.int IntKind.i64 (4 : Int)), AV.v (Value.int IntKind.i64 mo), AV.hs (0 : Nat) (0 : Nat) (1 : Nat)])] [some
    (Blk.arr (2 : Nat) (1 : Nat) fun x => [AV.v (Value.int IntKind.i64 n), AV.v (Value.int IntKind.i64 t)]), some (Blk.row [AV.ptr (2 : Nat) (0 : Nat)]), some (Blk.row [AV.v (Value.int
    IntKind.i64 all), AV.v (Value.int IntKind.i64 me), AV.v (Value.int IntKind.i64 (4 : Int)), AV.v (Value.int IntKind.i64 mo), AV.hs (0 : Nat) (0 : Nat) (1 : Nat)])])) (Tree.br false
    (Tree.leaf (Ans.mk (AV.hs (0 : Nat) (0 : Nat) (1 : Nat)) [some (Blk.arr (2 : Nat) (1 : Nat) fun x => [AV.v (Value.int IntKind.i64 n), AV.v (Value.int IntKind.i64 t)]), some (Blk.row
    [AV.ptr (2 : Nat) (0 : Nat)]), some (Blk.row [AV.v (Value.int IntKind.i64 all), AV.v (Value.int IntKind.i64 me), AV.v (Value.int IntKind.i64 (4 : Int)), AV.v (Value.int IntKind.i64 mo),
    AV.hs (0 : Nat) (0 : Nat) (1 : Nat)])])) (Tree.chk (cl (LeL [AV.hs (0 : Nat) (0 : Nat) (1 : Nat), AV.fn (28 : FuncId) [] [AV.ptr (1 : Nat) (0 : Nat)], AV.v (Value.int IntKind.i64 (0 :
    Int)), AV.v (Value.int IntKind.i64 (IntKind.wrap IntKind.i64 ((0 : Int) + (1 : Int)))), AV.v (Value.slice none (0 : Nat) (0 : Nat))] [AV.hs (0 : Nat) (0 : Nat) (1 : Nat), AV.fn (28 :
    FuncId) [] [AV.ptr (1 : Nat) (0 : Nat)], AV.v (Value.int IntKind.i64 (0 : Int)), AV.v (Value.int IntKind.i64 (1 : Int)), AV.any] ∧ LeH [some (Blk.arr (2 : Nat) (1 : Nat) fun x => [AV.v
    (Value.int IntKind.i64 n), AV.v (Value.int IntKind.i64 t)]), some (Blk.row [AV.ptr (2 : Nat) (0 : Nat)]), some (Blk.row [AV.v (Value.int IntKind.i64 all), AV.v (Value.int IntKind.i64
    me), AV.v (Value.int IntKind.i64 (4 : Int)), AV.v (Value.int IntKind.i64 mo), AV.hs (0 : Nat) (0 : Nat) (1 : Nat)])] [some (Blk.arr (2 : Nat) (1 : Nat) fun x => [AV.v (Value.int
    IntKind.i64 n), AV.v (Value.int IntKind.i64 t)]), some (Blk.row [AV.ptr (2 : Nat) (0 : Nat)]), some (Blk.row [AV.v (Value.int IntKind.i64 all), AV.v (Value.int IntKind.i64 me), AV.v
    (Value.int IntKind.i64 (4 : Int)), AV.v (Value.int IntKind.i64 mo), AV.hs (0 : Nat) (0 : Nat) (1 : Nat)])])) (Tree.chk true (Tree.chk true (Tree.leaf (Ans.mk (AV.hs (0 : Nat) (0 : Nat)
    (0 : Nat)) [some (Blk.arr (2 : Nat) (1 : Nat) fun j => mixL (decide ((0 : Nat) ≤ j) && decide (j < (1 : Nat))) [AV.v (Value.int IntKind.i64 (0 : Int)), AV.v (Value.int IntKind.i64 (0 :
    Int))] [AV.v (Value.int IntKind.i64 n), AV.v (Value.int IntKind.i64 t)]), some (Blk.row [AV.ptr (2 : Nat) (0 : Nat)]), some (Blk.row [AV.v (Value.int IntKind.i64 all), AV.v (Value.int
    IntKind.i64 me), AV.v (Value.int IntKind.i64 (4 : Int)), AV.v (Value.int IntKind.i64 mo), AV.hs (0 : Nat) (0 : Nat) (1 : Nat)])])))))) := by kernel_rfl
theorem ans27y {all me mo n t : Int} (h : mo ≤ t) : Answers Try.prog Γf 27 AI (FI all me mo n t) (.hs 0 0 0) [none, some (.row [.ptr 2 0]), some (FR 0 all me mo)] [] :=
  answers (fn := Try.f27) (c := bodyOf Try.f27) (ntmps := 42) (results := [.tmp 4]) [CT.at 24 (ans24y (all := all) (me := me) (n := n) h)] (fun _ => LSpec.at lv27 [] (S27 all me mo n t) (O27 all me mo n t)) false Try.func27 (by kernel_rfl) (by kernel_rfl) (by kernel_rfl) (by kernel_rfl) (by simp) rfl (oneLoop (b := lp27) (by kernel_rfl) (loop27 all me mo n t)) <| Meets.of (run27y all me mo n t h) <| by
    have hw : IntKind.wrap IntKind.i64 ((0 : Int) + (1 : Int)) = 1 := by kernel_rfl
    simp only [or_true, true_or, false_or, or_false, and_false, false_and, cond_true, cond_false, Bool.not_true, Bool.not_false, Bool.false_eq_true, Bool.true_eq_false, not_true_eq_false, not_false_eq_true, false_implies, true_implies, implies_true, Nat.blt_eq, owesN, owesX, owesR, notT, sat_brT, sat_brF, sat_chkT, cl_iff, cl_false, AV.le_refl, AV.le_any, OLe_refl, OLe_none, sat_brN, Tree.sat_chk, Tree.sat_leaf, Tree.sat_fail, Nat.zero_add, Nat.sub_zero, Int.toNat_natCast, LeH_cons, LeH_nil, LeL_cons, LeL_nil, and_true, true_and, Bool.and_eq_true, Bool.or_eq_true, decide_eq_true_eq, decide_eq_false_iff_not, Bool.cond_true_left, Bool.cond_false_right, List.cons_append, List.nil_append, List.map_cons, List.map_nil, hw]
    repeat' (first | apply And.intro | intro _hc)
    all_goals first | omega | contradiction | exact AV.le_refl _ | exact AV.le_any _ | exact OLe.refl _ | exact OLe.none _ | exact LeH.refl _ | exact LeL.refl _ | exact AV.le.bs _ | exact AV.le.sb _ | (exfalso; omega) | contradiction
noncomputable abbrev lp13 : Code := loopOf (bodyOf Try.f13) 0
abbrev FT (all me mo n t : Int) : List Blk := [FR 1 all me mo, FW n t]
def S130 (all me mo n t : Int) : List AV × Heap := ([.ptr 2 0, .v (.int .i64 1), .v (.int .i64 0), .v (.slice none 0 0), .any], (FT all me mo n t ++ [Blk.row [.ptr 0 0]]).map some)
abbrev lv13 : List Nat := [1, 22, 23, 3, 2]
theorem r130 (all me mo n t : Int) : roundE (P := Try.prog) (Γ := Γf) [] Lno false 2 0 lp13 lv13 [] 75 (S130 all me mo n t).1 (S130 all me mo n t).2 =
  Tree.br true (Tree.chk true (Tree.chk (!decide (IntKind.wrap IntKind.i64 (all - (1 : Int)) = (0 : Int)) && !decide (all = (0 : Int))) (Tree.chk true (Tree.leaf (Out.mk AEx.normal [AV.ptr (2
    : Nat) (0 : Nat), AV.v (Value.int IntKind.i64 (1 : Int)), AV.v (Value.int IntKind.i64 (IntKind.wrap IntKind.i64 ((0 : Int) + (1 : Int)))), AV.hs (3 : Nat) (0 : Nat) (1 : Nat), AV.any]
    [some (Blk.row [AV.v (Value.int IntKind.i64 all), AV.v (Value.int IntKind.i64 me), AV.v (Value.int IntKind.i64 (4 : Int)), AV.v (Value.int IntKind.i64 mo), AV.hs (1 : Nat) (0 : Nat) (1 :
    Nat)]), some (Blk.arr (2 : Nat) (1 : Nat) fun k => mixL (Nat.beq k (0 : Nat)) [AV.v (Value.int IntKind.i64 n), AV.v (Value.int IntKind.i64 (IntKind.wrap IntKind.i64 (t + (1 : Int))))]
    [AV.v (Value.int IntKind.i64 n), AV.v (Value.int IntKind.i64 t)]), some (Blk.row [AV.ptr (0 : Nat) (0 : Nat)]), some (Blk.arr (3 : Nat) (1 : Nat) fun j => chain [AV.v (Value.int
    IntKind.i64 (0 : Int)), AV.v (Value.int IntKind.i64 (0 : Int)), AV.v (Value.int IntKind.i64 (0 : Int))] (0 : Nat) [[AV.v (Value.int IntKind.i64 n), AV.v (Value.int IntKind.i64 (Int.tmod
    (IntKind.wrap IntKind.i64 (IntKind.wrap IntKind.i64 (me + (1 : Int)) + Int.tmod t (IntKind.wrap IntKind.i64 (all - (1 : Int))))) all)), AV.v (Value.int IntKind.i64 t)]] ((0 : Nat) +
    j))]))))) (Tree.leaf (Out.mk (AEx.exit (0 : Nat)) [AV.ptr (2 : Nat) (0 : Nat), AV.v (Value.int IntKind.i64 (1 : Int)), AV.v (Value.int IntKind.i64 (0 : Int)), AV.v (Value.slice none (0 :
    Nat) (0 : Nat)), AV.any] [some (Blk.row [AV.v (Value.int IntKind.i64 all), AV.v (Value.int IntKind.i64 me), AV.v (Value.int IntKind.i64 (4 : Int)), AV.v (Value.int IntKind.i64 mo), AV.hs
    (1 : Nat) (0 : Nat) (1 : Nat)]), some (Blk.arr (2 : Nat) (1 : Nat) fun x => [AV.v (Value.int IntKind.i64 n), AV.v (Value.int IntKind.i64 t)]), some (Blk.row [AV.ptr (0 : Nat) (0 :
    Nat)])])) := by kernel_rfl
end Go.Eng.F

/- fetch: one that is wanted: ticks. -/
namespace Go.Eng.F
open Go Go.Eng Go.Eng.M Go.Proofs
set_option linter.unusedSimpArgs false
set_option linter.unusedVariables false
def toX (all me t : Int) : Int := Int.tmod (IntKind.wrap IntKind.i64 (IntKind.wrap IntKind.i64 (me + (1 : Int)) + Int.tmod t (IntKind.wrap IntKind.i64 (all - (1 : Int))))) all
abbrev FO (n to t : Int) : Blk := .arr 3 1 fun _ => [.v (.int .i64 n), .v (.int .i64 to), .v (.int .i64 t)]
def S131 (all me mo n t t1 to : Int) : List AV × Heap := ([.ptr 2 0, .v (.int .i64 1), .v (.int .i64 1), .hs 3 0 1, .any], (FT all me mo n t1 ++ [Blk.row [.ptr 0 0], FO n to t]).map some)
def O13 (all me mo n t t1 to : Int) : Out := ⟨.exit 0, [.any, .any, .any, .hs 3 0 1, .any], [some (FR 1 all me mo), some (FW n t1), none, some (FO n to t)]⟩
theorem r131 (all me mo n t t1 to : Int) : roundE (P := Try.prog) (Γ := Γf) [] Lno false 2 0 lp13 lv13 [] 75 (S131 all me mo n t t1 to).1 (S131 all me mo n t t1 to).2 =
  Tree.br false (Tree.chk false (Tree.chk (!decide (IntKind.wrap IntKind.i64 (all - (1 : Int)) = (0 : Int)) && !decide (all = (0 : Int))) (Tree.chk true (Tree.leaf (Out.mk AEx.normal [AV.ptr
    (2 : Nat) (0 : Nat), AV.v (Value.int IntKind.i64 (1 : Int)), AV.v (Value.int IntKind.i64 (IntKind.wrap IntKind.i64 ((1 : Int) + (1 : Int)))), AV.hs (3 : Nat) (0 : Nat) (2 : Nat), AV.any]
    [some (Blk.row [AV.v (Value.int IntKind.i64 all), AV.v (Value.int IntKind.i64 me), AV.v (Value.int IntKind.i64 (4 : Int)), AV.v (Value.int IntKind.i64 mo), AV.hs (1 : Nat) (0 : Nat) (1 :
    Nat)]), some (Blk.arr (2 : Nat) (1 : Nat) fun k => mixL (Nat.beq k (1 : Nat)) [AV.v (Value.int IntKind.i64 n), AV.v (Value.int IntKind.i64 (IntKind.wrap IntKind.i64 (t1 + (1 : Int))))]
    [AV.v (Value.int IntKind.i64 n), AV.v (Value.int IntKind.i64 t1)]), some (Blk.row [AV.ptr (0 : Nat) (0 : Nat)]), some (Blk.arr (3 : Nat) (2 : Nat) fun j => mixL (decide (j < (1 : Nat)))
    [AV.v (Value.int IntKind.i64 n), AV.v (Value.int IntKind.i64 to), AV.v (Value.int IntKind.i64 t)] (chain [AV.v (Value.int IntKind.i64 (0 : Int)), AV.v (Value.int IntKind.i64 (0 : Int)),
    AV.v (Value.int IntKind.i64 (0 : Int))] (0 : Nat) [[AV.v (Value.int IntKind.i64 n), AV.v (Value.int IntKind.i64 (Int.tmod (IntKind.wrap IntKind.i64 (IntKind.wrap IntKind.i64 (me + (1 :
    Int)) + Int.tmod t1 (IntKind.wrap IntKind.i64 (all - (1 : Int))))) all)), AV.v (Value.int IntKind.i64 t1)]] ((0 : Nat) + (j - (1 : Nat)))))]))))) (Tree.leaf (Out.mk (AEx.exit (0 : Nat))
    [AV.ptr (2 : Nat) (0 : Nat), AV.v (Value.int IntKind.i64 (1 : Int)), AV.v (Value.int IntKind.i64 (1 : Int)), AV.hs (3 : Nat) (0 : Nat) (1 : Nat), AV.any] [some (Blk.row [AV.v (Value.int
    IntKind.i64 all), AV.v (Value.int IntKind.i64 me), AV.v (Value.int IntKind.i64 (4 : Int)), AV.v (Value.int IntKind.i64 mo), AV.hs (1 : Nat) (0 : Nat) (1 : Nat)]), some (Blk.arr (2 : Nat)
    (1 : Nat) fun x => [AV.v (Value.int IntKind.i64 n), AV.v (Value.int IntKind.i64 t1)]), some (Blk.row [AV.ptr (0 : Nat) (0 : Nat)]), some (Blk.arr (3 : Nat) (1 : Nat) fun x => [AV.v
    (Value.int IntKind.i64 n), AV.v (Value.int IntKind.i64 to), AV.v (Value.int IntKind.i64 t)])])) := by kernel_rfl
theorem hOne {sz : Nat} {g : Nat → List AV} {x : List AV} (h : g 0 = x) (hl : x.length = sz) : OLe (some (.arr sz 1 g)) (some (.arr sz 1 fun _ => x)) :=
  OLe.arr rfl (fun e he => by obtain rfl : e = 0 := by omega
                              exact h) (fun _ => hl)
theorem loop131 (all me mo n t t1 to : Int) : LoopOK Try.prog Γf 2 75 lp13 (LSpec.at lv13 [] (S131 all me mo n t t1 to) (O13 all me mo n t t1 to)) := by
  refine loop_at (S := fun _ : Unit => S131 all me mo n t t1 to) (O := fun _ => O13 all me mo n t t1 to) (pre := fun _ => True) (k := 0) (fun _ => 0) (fun x _ => .of (L := Lno) (failOK fun _ _ _ => rfl) (r131 all me mo n t t1 to) ?_) () trivial
  simp only [or_true, true_or, false_or, or_false, and_false, false_and, cond_true, cond_false, Bool.not_true, Bool.not_false, Bool.false_eq_true, Bool.true_eq_false, not_true_eq_false, not_false_eq_true, false_implies, true_implies, implies_true, Nat.blt_eq, owesN, owesX, owesR, notT, sat_brT, sat_brF, sat_chkT, cl_iff, cl_false, AV.le_refl, AV.le_any, OLe_refl, OLe_none, sat_brN, Tree.sat_chk, Tree.sat_leaf, Tree.sat_fail, Nat.zero_add, Nat.sub_zero, Int.toNat_natCast, LeH_cons, LeH_nil, LeL_cons, LeL_nil, and_true, true_and, Bool.and_eq_true, Bool.or_eq_true, decide_eq_true_eq, decide_eq_false_iff_not, Bool.cond_true_left, Bool.cond_false_right, List.cons_append, List.nil_append, List.map_cons, List.map_nil]
  repeat' (first | apply And.intro | intro _hc)
  all_goals first | omega | contradiction | exact AV.le_refl _ | exact AV.le_any _ | exact OLe.refl _ | exact OLe.none _ | exact LeH.refl _ | exact LeL.refl _ | exact AV.le.bs _ | exact AV.le.sb _ | exact rfl | (exfalso; omega) | contradiction
def S13 (all me mo n t t1 to : Int) (k : Nat) : List AV × Heap := match k with
  | 0 => S130 all me mo n t
  | _ => S131 all me mo n t t1 to
theorem loop13 {all me mo n t t1 to : Int} (h1 : IntKind.wrap IntKind.i64 (t + 1) = t1) (h2 : toX all me t = to) (h3 : ¬ IntKind.wrap IntKind.i64 (all - 1) = 0) (h4 : ¬ all = 0) : ∀ k, k ≤ 1 → LoopOK Try.prog Γf 2 75 lp13 (LSpec.at lv13 [] (S13 all me mo n t t1 to k) (O13 all me mo n t t1 to)) := by
  have h0 : IntKind.wrap IntKind.i64 ((0 : Int) + (1 : Int)) = 1 := by kernel_rfl
  unfold toX at h2
  refine loop_at (S := S13 all me mo n t t1 to) (O := fun _ => O13 all me mo n t t1 to) (k := 0) (fun k => 1 - k) fun k hk => ?_
  match k with
  | 0 =>
    refine .of (L := Lno) (failOK fun _ _ _ => rfl) (r130 all me mo n t) ?_
    simp only [or_true, true_or, false_or, or_false, and_false, false_and, cond_true, cond_false, Bool.not_true, Bool.not_false, Bool.false_eq_true, Bool.true_eq_false, not_true_eq_false, not_false_eq_true, false_implies, true_implies, implies_true, Nat.blt_eq, owesN, owesX, owesR, notT, sat_brT, sat_brF, sat_chkT, cl_iff, cl_false, AV.le_refl, AV.le_any, OLe_refl, OLe_none, sat_brN, Tree.sat_chk, Tree.sat_leaf, Tree.sat_fail, Nat.zero_add, Nat.sub_zero, Int.toNat_natCast, LeH_cons, LeH_nil, LeL_cons, LeL_nil, and_true, true_and, Bool.and_eq_true, Bool.or_eq_true, decide_eq_true_eq, decide_eq_false_iff_not, Bool.cond_true_left, Bool.cond_false_right, List.cons_append, List.nil_append, List.map_cons, List.map_nil, h0, h1, h2, h3, h4]
    repeat' (first | apply And.intro | intro _hc)
    all_goals first | omega | contradiction | exact AV.le_refl _ | exact AV.le_any _ | exact OLe.refl _ | exact OLe.none _ | exact LeH.refl _ | exact LeL.refl _ | exact AV.le.bs _ | exact AV.le.sb _ | exact ⟨1, ⟨.refl _, .refl _, .refl _, .refl _, .any _, trivial⟩, ⟨.refl _, hOne rfl rfl, .refl _, hOne rfl rfl, trivial⟩, Nat.le_refl _, by omega⟩ | (exfalso; omega) | contradiction
  | k + 1 =>
    refine .of (L := Lno) (failOK fun _ _ _ => rfl) (r131 all me mo n t t1 to) ?_
    simp only [or_true, true_or, false_or, or_false, and_false, false_and, cond_true, cond_false, Bool.not_true, Bool.not_false, Bool.false_eq_true, Bool.true_eq_false, not_true_eq_false, not_false_eq_true, false_implies, true_implies, implies_true, Nat.blt_eq, owesN, owesX, owesR, notT, sat_brT, sat_brF, sat_chkT, cl_iff, cl_false, AV.le_refl, AV.le_any, OLe_refl, OLe_none, sat_brN, Tree.sat_chk, Tree.sat_leaf, Tree.sat_fail, Nat.zero_add, Nat.sub_zero, Int.toNat_natCast, LeH_cons, LeH_nil, LeL_cons, LeL_nil, and_true, true_and, Bool.and_eq_true, Bool.or_eq_true, decide_eq_true_eq, decide_eq_false_iff_not, Bool.cond_true_left, Bool.cond_false_right, List.cons_append, List.nil_append, List.map_cons, List.map_nil]
    repeat' (first | apply And.intro | intro _hc)
    all_goals first | omega | contradiction | exact AV.le_refl _ | exact AV.le_any _ | exact OLe.refl _ | exact OLe.none _ | exact LeH.refl _ | exact LeL.refl _ | exact AV.le.bs _ | exact AV.le.sb _ | exact rfl | (exfalso; omega) | contradiction
theorem run13n (all me mo n t t1 to : Int) (h : ¬ mo ≤ t) : bodyE (P := Try.prog) (Γ := Γf) [CT.at 27 (ans27n (all := all) (me := me) (n := n) h)] (fun _ => LSpec.at lv13 [] (S13 all me mo n t t1 to 0) (O13 all me mo n t t1 to)) false 75 [.tmp 2] (bodyOf Try.f13) [.ptr 0 0] (FT all me mo n t) =
  Tree.chk (cl (LeL [AV.hs (0 : Nat) (0 : Nat) (1 : Nat), AV.fn (28 : Nat) [] [AV.ptr (1 : Nat) (0 : Nat)]] [AV.hs (0 : Nat) (0 : Nat) (1 : Nat), AV.fn (28 : FuncId) [] [AV.ptr (1 : Nat) (0 :
    Nat)]] ∧ LeH [some (Blk.arr (2 : Nat) (1 : Nat) fun x => [AV.v (Value.int IntKind.i64 n), AV.v (Value.int IntKind.i64 t)]), some (Blk.row [AV.ptr (2 : Nat) (0 : Nat)]), some (Blk.row
    [AV.v (Value.int IntKind.i64 all), AV.v (Value.int IntKind.i64 me), AV.v (Value.int IntKind.i64 (4 : Int)), AV.v (Value.int IntKind.i64 mo), AV.hs (0 : Nat) (0 : Nat) (1 : Nat)])] [some
    (Blk.arr (2 : Nat) (1 : Nat) fun x => [AV.v (Value.int IntKind.i64 n), AV.v (Value.int IntKind.i64 t)]), some (Blk.row [AV.ptr (2 : Nat) (0 : Nat)]), some (Blk.row [AV.v (Value.int
    IntKind.i64 all), AV.v (Value.int IntKind.i64 me), AV.v (Value.int IntKind.i64 (4 : Int)), AV.v (Value.int IntKind.i64 mo), AV.hs (0 : Nat) (0 : Nat) (1 : Nat)])])) (Tree.chk true
    (Tree.chk (cl (LeL [AV.ptr (2 : Nat) (0 : Nat), AV.v (Value.int IntKind.i64 (↑(1 : Nat) : Int)), AV.v (Value.int IntKind.i64 (0 : Int)), AV.v (Value.slice none (0 : Nat) (0 : Nat)), AV.v
    (Value.slice none (0 : Nat) (0 : Nat))] [AV.ptr (2 : Nat) (0 : Nat), AV.v (Value.int IntKind.i64 (1 : Int)), AV.v (Value.int IntKind.i64 (0 : Int)), AV.v (Value.slice none (0 : Nat) (0 :
    Nat)), AV.any] ∧ LeH [some (Blk.row [AV.v (Value.int IntKind.i64 all), AV.v (Value.int IntKind.i64 me), AV.v (Value.int IntKind.i64 (4 : Int)), AV.v (Value.int IntKind.i64 mo), AV.hs (1
    : Nat) (0 : Nat) (1 : Nat)]), some (Blk.arr (2 : Nat) (1 : Nat) fun x => [AV.v (Value.int IntKind.i64 n), AV.v (Value.int IntKind.i64 t)]), some (Blk.row [AV.ptr (0 : Nat) (0 : Nat)])]
    [some (Blk.row [AV.v (Value.int IntKind.i64 all), AV.v (Value.int IntKind.i64 me), AV.v (Value.int IntKind.i64 (4 : Int)), AV.v (Value.int IntKind.i64 mo), AV.hs (1 : Nat) (0 : Nat) (1 :
    Nat)]), some (Blk.arr (2 : Nat) (1 : Nat) fun x => [AV.v (Value.int IntKind.i64 n), AV.v (Value.int IntKind.i64 t)]), some (Blk.row [AV.ptr (0 : Nat) (0 : Nat)])])) (Tree.leaf (Ans.mk
    (AV.hs (2 : Nat) (0 : Nat) (1 : Nat)) [some (Blk.row [AV.v (Value.int IntKind.i64 all), AV.v (Value.int IntKind.i64 me), AV.v (Value.int IntKind.i64 (4 : Int)), AV.v (Value.int
    IntKind.i64 mo), AV.hs (1 : Nat) (0 : Nat) (1 : Nat)]), some (Blk.arr (2 : Nat) (1 : Nat) fun x => [AV.v (Value.int IntKind.i64 n), AV.v (Value.int IntKind.i64 t1)]), some (Blk.arr (3 :
    Nat) (1 : Nat) fun x => [AV.v (Value.int IntKind.i64 n), AV.v (Value.int IntKind.i64 to), AV.v (Value.int IntKind.i64 t)])])))) := by kernel_rfl
theorem ans13n {all me mo n t t1 to : Int} (h : ¬ mo ≤ t) (h1 : IntKind.wrap IntKind.i64 (t + 1) = t1) (h2 : toX all me t = to) (h3 : ¬ IntKind.wrap IntKind.i64 (all - 1) = 0) (h4 : ¬ all = 0) : Answers Try.prog Γf 13 [.ptr 0 0] (FT all me mo n t) (.hs 2 0 1) [some (FR 1 all me mo), some (FW n t1)] [FO n to t] :=
  answers (fn := Try.f13) (c := bodyOf Try.f13) (ntmps := 75) (results := [.tmp 2]) [CT.at 27 (ans27n (all := all) (me := me) (n := n) h)] (fun _ => LSpec.at lv13 [] (S13 all me mo n t t1 to 0) (O13 all me mo n t t1 to)) false Try.func13 (by kernel_rfl) (by kernel_rfl) (by kernel_rfl) (by kernel_rfl) (by simp) rfl (oneLoop (b := lp13) (by kernel_rfl) (loop13 h1 h2 h3 h4 0 (Nat.zero_le _))) <| Meets.of (run13n all me mo n t t1 to h) <| by
    simp only [or_true, true_or, false_or, or_false, and_false, false_and, cond_true, cond_false, Bool.not_true, Bool.not_false, Bool.false_eq_true, Bool.true_eq_false, not_true_eq_false, not_false_eq_true, false_implies, true_implies, implies_true, Nat.blt_eq, owesN, owesX, owesR, notT, sat_brT, sat_brF, sat_chkT, cl_iff, cl_false, AV.le_refl, AV.le_any, OLe_refl, OLe_none, sat_brN, Tree.sat_chk, Tree.sat_leaf, Tree.sat_fail, Nat.zero_add, Nat.sub_zero, Int.toNat_natCast, LeH_cons, LeH_nil, LeL_cons, LeL_nil, and_true, true_and, Bool.and_eq_true, Bool.or_eq_true, decide_eq_true_eq, decide_eq_false_iff_not, Bool.cond_true_left, Bool.cond_false_right, List.cons_append, List.nil_append, List.map_cons, List.map_nil]
    repeat' (first | apply And.intro | intro _hc)
    all_goals first | omega | contradiction | exact AV.le_refl _ | exact AV.le_any _ | exact OLe.refl _ | exact OLe.none _ | exact LeH.refl _ | exact LeL.refl _ | exact AV.le.bs _ | exact AV.le.sb _ | (exfalso; omega) | contradiction
end Go.Eng.F

/- fetch: one that is wanted: the last tick, the wants, sets. -/
namespace Go.Eng.F
open Go Go.Eng Go.Eng.M Go.Proofs
set_option linter.unusedSimpArgs false
set_option linter.unusedVariables false
abbrev FR0 (all me mo : Int) : Blk := .row [.v (.int .i64 all), .v (.int .i64 me), .v (.int .i64 4), .v (.int .i64 mo), .hs 1 0 0]
theorem ans27z {all me mo n t : Int} (h : mo ≤ t) : Answers Try.prog Γf 27 AI (FI all me mo n t) (.hs 0 0 0) [some (FW 0 0), some (.row [.ptr 2 0]), some (FR 0 all me mo)] [] :=
  answers (fn := Try.f27) (c := bodyOf Try.f27) (ntmps := 42) (results := [.tmp 4]) [CT.at 24 (ans24y (all := all) (me := me) (n := n) h)] (fun _ => LSpec.at lv27 [] (S27 all me mo n t) (O27 all me mo n t)) false Try.func27 (by kernel_rfl) (by kernel_rfl) (by kernel_rfl) (by kernel_rfl) (by simp) rfl (oneLoop (b := lp27) (by kernel_rfl) (loop27 all me mo n t)) <| Meets.of (run27y all me mo n t h) <| by
    have hw : IntKind.wrap IntKind.i64 ((0 : Int) + (1 : Int)) = 1 := by kernel_rfl
    simp only [or_true, true_or, false_or, or_false, and_false, false_and, cond_true, cond_false, Bool.not_true, Bool.not_false, Bool.false_eq_true, Bool.true_eq_false, not_true_eq_false, not_false_eq_true, false_implies, true_implies, implies_true, Nat.blt_eq, owesN, owesX, owesR, notT, sat_brT, sat_brF, sat_chkT, cl_iff, cl_false, AV.le_refl, AV.le_any, OLe_refl, OLe_none, sat_brN, Tree.sat_chk, Tree.sat_leaf, Tree.sat_fail, Nat.zero_add, Nat.sub_zero, Int.toNat_natCast, LeH_cons, LeH_nil, LeL_cons, LeL_nil, and_true, true_and, Bool.and_eq_true, Bool.or_eq_true, decide_eq_true_eq, decide_eq_false_iff_not, Bool.cond_true_left, Bool.cond_false_right, List.cons_append, List.nil_append, List.map_cons, List.map_nil, hw]
    repeat' (first | apply And.intro | intro _hc)
    all_goals first | omega | contradiction | exact AV.le_refl _ | exact AV.le_any _ | exact OLe.refl _ | exact OLe.none _ | exact LeH.refl _ | exact LeL.refl _ | exact AV.le.bs _ | exact AV.le.sb _ | exact hOne rfl rfl | (exfalso; omega) | contradiction
def S132 (all me mo : Int) : List AV × Heap := ([.ptr 2 0, .v (.int .i64 0), .v (.int .i64 0), .v (.slice none 0 0), .any], [some (FR0 all me mo), some (FW 0 0), some (Blk.row [.ptr 0 0])])
def O132 (all me mo : Int) : Out := ⟨.exit 0, [.any, .any, .any, .v (.slice none 0 0), .any], [some (FR0 all me mo), some (FW 0 0), none]⟩
theorem r132 (all me mo : Int) : roundE (P := Try.prog) (Γ := Γf) [] Lno false 2 0 lp13 lv13 [] 75 (S132 all me mo).1 (S132 all me mo).2 =
  Tree.br false (Tree.chk false (Tree.chk (!decide (IntKind.wrap IntKind.i64 (all - (1 : Int)) = (0 : Int)) && !decide (all = (0 : Int))) (Tree.chk true (Tree.leaf (Out.mk AEx.normal [AV.ptr
    (2 : Nat) (0 : Nat), AV.v (Value.int IntKind.i64 (0 : Int)), AV.v (Value.int IntKind.i64 (IntKind.wrap IntKind.i64 ((0 : Int) + (1 : Int)))), AV.hs (3 : Nat) (0 : Nat) (1 : Nat), AV.any]
    [some (Blk.row [AV.v (Value.int IntKind.i64 all), AV.v (Value.int IntKind.i64 me), AV.v (Value.int IntKind.i64 (4 : Int)), AV.v (Value.int IntKind.i64 mo), AV.hs (1 : Nat) (0 : Nat) (0 :
    Nat)]), some (Blk.arr (2 : Nat) (1 : Nat) fun k => mixL (Nat.beq k (0 : Nat)) [AV.v (Value.int IntKind.i64 (0 : Int)), AV.v (Value.int IntKind.i64 (IntKind.wrap IntKind.i64 ((0 : Int) +
    (1 : Int))))] [AV.v (Value.int IntKind.i64 (0 : Int)), AV.v (Value.int IntKind.i64 (0 : Int))]), some (Blk.row [AV.ptr (0 : Nat) (0 : Nat)]), some (Blk.arr (3 : Nat) (1 : Nat) fun j =>
    chain [AV.v (Value.int IntKind.i64 (0 : Int)), AV.v (Value.int IntKind.i64 (0 : Int)), AV.v (Value.int IntKind.i64 (0 : Int))] (0 : Nat) [[AV.v (Value.int IntKind.i64 (0 : Int)), AV.v
    (Value.int IntKind.i64 (Int.tmod (IntKind.wrap IntKind.i64 (IntKind.wrap IntKind.i64 (me + (1 : Int)) + Int.tmod (0 : Int) (IntKind.wrap IntKind.i64 (all - (1 : Int))))) all)), AV.v
    (Value.int IntKind.i64 (0 : Int))]] ((0 : Nat) + j))]))))) (Tree.leaf (Out.mk (AEx.exit (0 : Nat)) [AV.ptr (2 : Nat) (0 : Nat), AV.v (Value.int IntKind.i64 (0 : Int)), AV.v (Value.int
    IntKind.i64 (0 : Int)), AV.v (Value.slice none (0 : Nat) (0 : Nat)), AV.any] [some (Blk.row [AV.v (Value.int IntKind.i64 all), AV.v (Value.int IntKind.i64 me), AV.v (Value.int
    IntKind.i64 (4 : Int)), AV.v (Value.int IntKind.i64 mo), AV.hs (1 : Nat) (0 : Nat) (0 : Nat)]), some (Blk.arr (2 : Nat) (1 : Nat) fun x => [AV.v (Value.int IntKind.i64 (0 : Int)), AV.v
    (Value.int IntKind.i64 (0 : Int))]), some (Blk.row [AV.ptr (0 : Nat) (0 : Nat)])])) := by kernel_rfl
theorem loop132 (all me mo : Int) : LoopOK Try.prog Γf 2 75 lp13 (LSpec.at lv13 [] (S132 all me mo) (O132 all me mo)) := by
  refine loop_at (S := fun _ : Unit => S132 all me mo) (O := fun _ => O132 all me mo) (pre := fun _ => True) (k := 0) (fun _ => 0) (fun x _ => .of (L := Lno) (failOK fun _ _ _ => rfl) (r132 all me mo) ?_) () trivial
  simp only [or_true, true_or, false_or, or_false, and_false, false_and, cond_true, cond_false, Bool.not_true, Bool.not_false, Bool.false_eq_true, Bool.true_eq_false, not_true_eq_false, not_false_eq_true, false_implies, true_implies, implies_true, Nat.blt_eq, owesN, owesX, owesR, notT, sat_brT, sat_brF, sat_chkT, cl_iff, cl_false, AV.le_refl, AV.le_any, OLe_refl, OLe_none, sat_brN, Tree.sat_chk, Tree.sat_leaf, Tree.sat_fail, Nat.zero_add, Nat.sub_zero, Int.toNat_natCast, LeH_cons, LeH_nil, LeL_cons, LeL_nil, and_true, true_and, Bool.and_eq_true, Bool.or_eq_true, decide_eq_true_eq, decide_eq_false_iff_not, Bool.cond_true_left, Bool.cond_false_right, List.cons_append, List.nil_append, List.map_cons, List.map_nil]
  repeat' (first | apply And.intro | intro _hc)
  all_goals first | omega | contradiction | exact AV.le_refl _ | exact AV.le_any _ | exact OLe.refl _ | exact OLe.none _ | exact LeH.refl _ | exact LeL.refl _ | exact AV.le.bs _ | exact AV.le.sb _ | exact rfl | (exfalso; omega) | contradiction
theorem run13y (all me mo n t : Int) (h : mo ≤ t) : bodyE (P := Try.prog) (Γ := Γf) [CT.at 27 (ans27z (all := all) (me := me) (n := n) h)] (fun _ => LSpec.at lv13 [] (S132 all me mo) (O132 all me mo)) false 75 [.tmp 2] (bodyOf Try.f13) [.ptr 0 0] (FT all me mo n t) =
  Tree.chk (cl (LeL [AV.hs (0 : Nat) (0 : Nat) (1 : Nat), AV.fn (28 : Nat) [] [AV.ptr (1 : Nat) (0 : Nat)]] [AV.hs (0 : Nat) (0 : Nat) (1 : Nat), AV.fn (28 : FuncId) [] [AV.ptr (1 : Nat) (0 :
    Nat)]] ∧ LeH [some (Blk.arr (2 : Nat) (1 : Nat) fun x => [AV.v (Value.int IntKind.i64 n), AV.v (Value.int IntKind.i64 t)]), some (Blk.row [AV.ptr (2 : Nat) (0 : Nat)]), some (Blk.row
    [AV.v (Value.int IntKind.i64 all), AV.v (Value.int IntKind.i64 me), AV.v (Value.int IntKind.i64 (4 : Int)), AV.v (Value.int IntKind.i64 mo), AV.hs (0 : Nat) (0 : Nat) (1 : Nat)])] [some
    (Blk.arr (2 : Nat) (1 : Nat) fun x => [AV.v (Value.int IntKind.i64 n), AV.v (Value.int IntKind.i64 t)]), some (Blk.row [AV.ptr (2 : Nat) (0 : Nat)]), some (Blk.row [AV.v (Value.int
    IntKind.i64 all), AV.v (Value.int IntKind.i64 me), AV.v (Value.int IntKind.i64 (4 : Int)), AV.v (Value.int IntKind.i64 mo), AV.hs (0 : Nat) (0 : Nat) (1 : Nat)])])) (Tree.chk true
    (Tree.chk (cl (LeL [AV.ptr (2 : Nat) (0 : Nat), AV.v (Value.int IntKind.i64 (↑(0 : Nat) : Int)), AV.v (Value.int IntKind.i64 (0 : Int)), AV.v (Value.slice none (0 : Nat) (0 : Nat)), AV.v
    (Value.slice none (0 : Nat) (0 : Nat))] [AV.ptr (2 : Nat) (0 : Nat), AV.v (Value.int IntKind.i64 (0 : Int)), AV.v (Value.int IntKind.i64 (0 : Int)), AV.v (Value.slice none (0 : Nat) (0 :
    Nat)), AV.any] ∧ LeH [some (Blk.row [AV.v (Value.int IntKind.i64 all), AV.v (Value.int IntKind.i64 me), AV.v (Value.int IntKind.i64 (4 : Int)), AV.v (Value.int IntKind.i64 mo), AV.hs (1
    : Nat) (0 : Nat) (0 : Nat)]), some (Blk.arr (2 : Nat) (1 : Nat) fun x => [AV.v (Value.int IntKind.i64 (0 : Int)), AV.v (Value.int IntKind.i64 (0 : Int))]), some (Blk.row [AV.ptr (0 :
    Nat) (0 : Nat)])] [some (Blk.row [AV.v (Value.int IntKind.i64 all), AV.v (Value.int IntKind.i64 me), AV.v (Value.int IntKind.i64 (4 : Int)), AV.v (Value.int IntKind.i64 mo), AV.hs (1 :
    Nat) (0 : Nat) (0 : Nat)]), some (Blk.arr (2 : Nat) (1 : Nat) fun x => [AV.v (Value.int IntKind.i64 (0 : Int)), AV.v (Value.int IntKind.i64 (0 : Int))]), some (Blk.row [AV.ptr (0 : Nat)
    (0 : Nat)])])) (Tree.leaf (Ans.mk (AV.v (Value.slice none (0 : Nat) (0 : Nat))) [some (Blk.row [AV.v (Value.int IntKind.i64 all), AV.v (Value.int IntKind.i64 me), AV.v (Value.int
    IntKind.i64 (4 : Int)), AV.v (Value.int IntKind.i64 mo), AV.hs (1 : Nat) (0 : Nat) (0 : Nat)]), some (Blk.arr (2 : Nat) (1 : Nat) fun x => [AV.v (Value.int IntKind.i64 (0 : Int)), AV.v
    (Value.int IntKind.i64 (0 : Int))])])))) := by kernel_rfl
theorem ans13y {all me mo n t : Int} (h : mo ≤ t) : Answers Try.prog Γf 13 [.ptr 0 0] (FT all me mo n t) (.v (.slice none 0 0)) [some (FR0 all me mo), some (FW 0 0)] [] :=
  answers (fn := Try.f13) (c := bodyOf Try.f13) (ntmps := 75) (results := [.tmp 2]) [CT.at 27 (ans27z (all := all) (me := me) (n := n) h)] (fun _ => LSpec.at lv13 [] (S132 all me mo) (O132 all me mo)) false Try.func13 (by kernel_rfl) (by kernel_rfl) (by kernel_rfl) (by kernel_rfl) (by simp) rfl (oneLoop (b := lp13) (by kernel_rfl) (loop132 all me mo)) <| Meets.of (run13y all me mo n t h) <| by
    simp only [or_true, true_or, false_or, or_false, and_false, false_and, cond_true, cond_false, Bool.not_true, Bool.not_false, Bool.false_eq_true, Bool.true_eq_false, not_true_eq_false, not_false_eq_true, false_implies, true_implies, implies_true, Nat.blt_eq, owesN, owesX, owesR, notT, sat_brT, sat_brF, sat_chkT, cl_iff, cl_false, AV.le_refl, AV.le_any, OLe_refl, OLe_none, sat_brN, Tree.sat_chk, Tree.sat_leaf, Tree.sat_fail, Nat.zero_add, Nat.sub_zero, Int.toNat_natCast, LeH_cons, LeH_nil, LeL_cons, LeL_nil, and_true, true_and, Bool.and_eq_true, Bool.or_eq_true, decide_eq_true_eq, decide_eq_false_iff_not, Bool.cond_true_left, Bool.cond_false_right, List.cons_append, List.nil_append, List.map_cons, List.map_nil]
    repeat' (first | apply And.intro | intro _hc)
    all_goals first | omega | contradiction | exact AV.le_refl _ | exact AV.le_any _ | exact OLe.refl _ | exact OLe.none _ | exact LeH.refl _ | exact LeL.refl _ | exact AV.le.bs _ | exact AV.le.sb _ | (exfalso; omega) | contradiction
theorem ansPut {s k : Int} (hs : inU32 s = true) (hk : okB k = true) : Answers Try.prog Γf 18 [.v (.int .u32 s), .v (.int .i64 k)] [] (.tup [.v (.int .u32 (putU s k)), .v (.int .i64 0)]) [] [] :=
  answers (fn := Try.f18) (c := bodyOf Try.f18) (ntmps := 13) (results := [.tmp 4, .tmp 5]) [FetQ.c28] Lno false Try.func18 (by kernel_rfl) (by kernel_rfl) (by kernel_rfl) (by kernel_rfl) (by simp) rfl (noLoops (by kernel_rfl)) <| Meets.of (FetQ.run19 s k) <| by
    have h1 := (okB_iff.1 hk).1
    have h2 := (okB_iff.1 hk).2
    have h3 := (pow_one hk).1
    simp only [or_true, true_or, false_or, or_false, and_false, false_and, cond_true, cond_false, Bool.not_true, Bool.not_false, Bool.false_eq_true, Bool.true_eq_false, not_true_eq_false, not_false_eq_true, false_implies, true_implies, implies_true, Nat.blt_eq, owesN, owesX, owesR, notT, sat_brT, sat_brF, sat_chkT, cl_iff, cl_false, AV.le_refl, AV.le_any, OLe_refl, OLe_none, sat_brN, Tree.sat_chk, Tree.sat_leaf, Tree.sat_fail, Nat.zero_add, Nat.sub_zero, Int.toNat_natCast, LeH_cons, LeH_nil, LeL_cons, LeL_nil, and_true, true_and, Bool.and_eq_true, Bool.or_eq_true, decide_eq_true_eq, decide_eq_false_iff_not, Bool.cond_true_left, Bool.cond_false_right, List.cons_append, List.nil_append, List.map_cons, List.map_nil, h3]
    repeat' (first | apply And.intro | intro _hc)
    all_goals first | omega | contradiction | exact AV.le_refl _ | exact AV.le_any _ | exact OLe.refl _ | exact OLe.none _ | exact LeH.refl _ | exact LeL.refl _ | exact AV.le.bs _ | exact AV.le.sb _ | exact .of_eq (by rw [putU, hk]; rfl) | (exfalso; omega) | contradiction
theorem ansCnt {s : Int} (hs : inU32 s = true) : Answers Try.prog Γf 19 [.v (.int .u32 s)] [] (.v (.int .i64 (pc s : Int))) [] [] :=
  answers (fn := Try.f19) (c := bodyOf Try.f19) (ntmps := 5) (results := [.tmp 2]) [FetQ.c26] Lno false Try.func19 (by kernel_rfl) (by kernel_rfl) (by kernel_rfl) (by kernel_rfl) (by simp) rfl (noLoops (by kernel_rfl)) <| Meets.of (FetQ.run10 s) <| by
    simp only [or_true, true_or, false_or, or_false, and_false, false_and, cond_true, cond_false, Bool.not_true, Bool.not_false, Bool.false_eq_true, Bool.true_eq_false, not_true_eq_false, not_false_eq_true, false_implies, true_implies, implies_true, Nat.blt_eq, owesN, owesX, owesR, notT, sat_brT, sat_brF, sat_chkT, cl_iff, cl_false, AV.le_refl, AV.le_any, OLe_refl, OLe_none, sat_brN, Tree.sat_chk, Tree.sat_leaf, Tree.sat_fail, Nat.zero_add, Nat.sub_zero, Int.toNat_natCast, LeH_cons, LeH_nil, LeL_cons, LeL_nil, and_true, true_and, Bool.and_eq_true, Bool.or_eq_true, decide_eq_true_eq, decide_eq_false_iff_not, Bool.cond_true_left, Bool.cond_false_right, List.cons_append, List.nil_append, List.map_cons, List.map_nil, hs]
    repeat' (first | apply And.intro | intro _hc)
    all_goals first | omega | contradiction | exact AV.le_refl _ | exact AV.le_any _ | exact OLe.refl _ | exact OLe.none _ | exact LeH.refl _ | exact LeL.refl _ | exact AV.le.bs _ | exact AV.le.sb _ | (exfalso; omega) | contradiction
noncomputable abbrev lp16 : Code := loopOf (bodyOf Try.f16) 0
abbrev FZ (all me mo : Int) : List Blk := [FR0 all me mo, FW 0 0]
def S16 (all me mo : Int) : List AV × Heap := ([.hs 1 0 0, .v (.int .i64 0), .v (.int .i64 0), .v (.slice none 0 0), .any], (FZ all me mo).map some)
def O16 (all me mo : Int) : Out := ⟨.exit 0, [.any, .any, .any, .v (.slice none 0 0), .any], (FZ all me mo).map some⟩
abbrev lv16 : List Nat := [11, 12, 13, 3, 2]
theorem r16 (all me mo : Int) : roundE (P := Try.prog) (Γ := Γf) [] Lno false 2 0 lp16 lv16 [] 24 (S16 all me mo).1 (S16 all me mo).2 =
  Tree.br false (Tree.chk false (Tree.chk true (Tree.leaf (Out.mk AEx.normal [AV.hs (1 : Nat) (0 : Nat) (0 : Nat), AV.v (Value.int IntKind.i64 (0 : Int)), AV.v (Value.int IntKind.i64
    (IntKind.wrap IntKind.i64 ((0 : Int) + (1 : Int)))), AV.hs (2 : Nat) (0 : Nat) (1 : Nat), AV.any] [some (Blk.row [AV.v (Value.int IntKind.i64 all), AV.v (Value.int IntKind.i64 me), AV.v
    (Value.int IntKind.i64 (4 : Int)), AV.v (Value.int IntKind.i64 mo), AV.hs (1 : Nat) (0 : Nat) (0 : Nat)]), some (Blk.arr (2 : Nat) (1 : Nat) fun x => [AV.v (Value.int IntKind.i64 (0 :
    Int)), AV.v (Value.int IntKind.i64 (0 : Int))]), some (Blk.arr (1 : Nat) (1 : Nat) fun j => chain [AV.v (Value.int IntKind.i64 (0 : Int))] (0 : Nat) [[AV.v (Value.int IntKind.i64 (0 :
    Int))]] ((0 : Nat) + j))])))) (Tree.leaf (Out.mk (AEx.exit (0 : Nat)) [AV.hs (1 : Nat) (0 : Nat) (0 : Nat), AV.v (Value.int IntKind.i64 (0 : Int)), AV.v (Value.int IntKind.i64 (0 :
    Int)), AV.v (Value.slice none (0 : Nat) (0 : Nat)), AV.any] [some (Blk.row [AV.v (Value.int IntKind.i64 all), AV.v (Value.int IntKind.i64 me), AV.v (Value.int IntKind.i64 (4 : Int)),
    AV.v (Value.int IntKind.i64 mo), AV.hs (1 : Nat) (0 : Nat) (0 : Nat)]), some (Blk.arr (2 : Nat) (1 : Nat) fun x => [AV.v (Value.int IntKind.i64 (0 : Int)), AV.v (Value.int IntKind.i64 (0
    : Int))])])) := by kernel_rfl
theorem loop16 (all me mo : Int) : LoopOK Try.prog Γf 2 24 lp16 (LSpec.at lv16 [] (S16 all me mo) (O16 all me mo)) := by
  refine loop_at (S := fun _ : Unit => S16 all me mo) (O := fun _ => O16 all me mo) (pre := fun _ => True) (k := 0) (fun _ => 0) (fun x _ => .of (L := Lno) (failOK fun _ _ _ => rfl) (r16 all me mo) ?_) () trivial
  simp only [or_true, true_or, false_or, or_false, and_false, false_and, cond_true, cond_false, Bool.not_true, Bool.not_false, Bool.false_eq_true, Bool.true_eq_false, not_true_eq_false, not_false_eq_true, false_implies, true_implies, implies_true, Nat.blt_eq, owesN, owesX, owesR, notT, sat_brT, sat_brF, sat_chkT, cl_iff, cl_false, AV.le_refl, AV.le_any, OLe_refl, OLe_none, sat_brN, Tree.sat_chk, Tree.sat_leaf, Tree.sat_fail, Nat.zero_add, Nat.sub_zero, Int.toNat_natCast, LeH_cons, LeH_nil, LeL_cons, LeL_nil, and_true, true_and, Bool.and_eq_true, Bool.or_eq_true, decide_eq_true_eq, decide_eq_false_iff_not, Bool.cond_true_left, Bool.cond_false_right, List.cons_append, List.nil_append, List.map_cons, List.map_nil]
  repeat' (first | apply And.intro | intro _hc)
  all_goals first | omega | contradiction | exact AV.le_refl _ | exact AV.le_any _ | exact OLe.refl _ | exact OLe.none _ | exact LeH.refl _ | exact LeL.refl _ | exact AV.le.bs _ | exact AV.le.sb _ | exact rfl | (exfalso; omega) | contradiction
theorem run16 (all me mo : Int) : bodyE (P := Try.prog) (Γ := Γf) [] (fun _ => LSpec.at lv16 [] (S16 all me mo) (O16 all me mo)) false 24 [.tmp 2] (bodyOf Try.f16) [.ptr 0 0] (FZ all me mo) =
  Tree.chk (cl (LeL [AV.hs (1 : Nat) (0 : Nat) (0 : Nat), AV.v (Value.int IntKind.i64 (↑(0 : Nat) : Int)), AV.v (Value.int IntKind.i64 (0 : Int)), AV.v (Value.slice none (0 : Nat) (0 : Nat)),
    AV.v (Value.slice none (0 : Nat) (0 : Nat))] [AV.hs (1 : Nat) (0 : Nat) (0 : Nat), AV.v (Value.int IntKind.i64 (0 : Int)), AV.v (Value.int IntKind.i64 (0 : Int)), AV.v (Value.slice none
    (0 : Nat) (0 : Nat)), AV.any] ∧ LeH [some (Blk.row [AV.v (Value.int IntKind.i64 all), AV.v (Value.int IntKind.i64 me), AV.v (Value.int IntKind.i64 (4 : Int)), AV.v (Value.int IntKind.i64
    mo), AV.hs (1 : Nat) (0 : Nat) (0 : Nat)]), some (Blk.arr (2 : Nat) (1 : Nat) fun x => [AV.v (Value.int IntKind.i64 (0 : Int)), AV.v (Value.int IntKind.i64 (0 : Int))])] [some (Blk.row
    [AV.v (Value.int IntKind.i64 all), AV.v (Value.int IntKind.i64 me), AV.v (Value.int IntKind.i64 (4 : Int)), AV.v (Value.int IntKind.i64 mo), AV.hs (1 : Nat) (0 : Nat) (0 : Nat)]), some
    (Blk.arr (2 : Nat) (1 : Nat) fun x => [AV.v (Value.int IntKind.i64 (0 : Int)), AV.v (Value.int IntKind.i64 (0 : Int))])])) (Tree.leaf (Ans.mk (AV.v (Value.slice none (0 : Nat) (0 :
    Nat))) [some (Blk.row [AV.v (Value.int IntKind.i64 all), AV.v (Value.int IntKind.i64 me), AV.v (Value.int IntKind.i64 (4 : Int)), AV.v (Value.int IntKind.i64 mo), AV.hs (1 : Nat) (0 :
    Nat) (0 : Nat)]), some (Blk.arr (2 : Nat) (1 : Nat) fun x => [AV.v (Value.int IntKind.i64 (0 : Int)), AV.v (Value.int IntKind.i64 (0 : Int))])])) := by kernel_rfl
theorem ans16 {all me mo : Int} : Answers Try.prog Γf 16 [.ptr 0 0] (FZ all me mo) (.v (.slice none 0 0)) ((FZ all me mo).map some) [] :=
  answers (fn := Try.f16) (c := bodyOf Try.f16) (ntmps := 24) (results := [.tmp 2]) [] (fun _ => LSpec.at lv16 [] (S16 all me mo) (O16 all me mo)) false Try.func16 (by kernel_rfl) (by kernel_rfl) (by kernel_rfl) (by kernel_rfl) (by simp) rfl (oneLoop (b := lp16) (by kernel_rfl) (loop16 all me mo)) <| Meets.of (run16 all me mo) <| by
    simp only [or_true, true_or, false_or, or_false, and_false, false_and, cond_true, cond_false, Bool.not_true, Bool.not_false, Bool.false_eq_true, Bool.true_eq_false, not_true_eq_false, not_false_eq_true, false_implies, true_implies, implies_true, Nat.blt_eq, owesN, owesX, owesR, notT, sat_brT, sat_brF, sat_chkT, cl_iff, cl_false, AV.le_refl, AV.le_any, OLe_refl, OLe_none, sat_brN, Tree.sat_chk, Tree.sat_leaf, Tree.sat_fail, Nat.zero_add, Nat.sub_zero, Int.toNat_natCast, LeH_cons, LeH_nil, LeL_cons, LeL_nil, and_true, true_and, Bool.and_eq_true, Bool.or_eq_true, decide_eq_true_eq, decide_eq_false_iff_not, Bool.cond_true_left, Bool.cond_false_right, List.cons_append, List.nil_append, List.map_cons, List.map_nil]
    repeat' (first | apply And.intro | intro _hc)
    all_goals first | omega | contradiction | exact AV.le_refl _ | exact AV.le_any _ | exact OLe.refl _ | exact OLe.none _ | exact LeH.refl _ | exact LeL.refl _ | exact AV.le.bs _ | exact AV.le.sb _ | (exfalso; omega) | contradiction
noncomputable abbrev lp33 : Code := loopOf (bodyOf Try.f33) 0
abbrev A33 (n : Int) : List AV := [.v (.slice none 0 0), .v (.int .i64 n), .fn 34 [] []]
def S33 (n : Int) : List AV × Heap := (A33 n ++ [.v (.int .i64 0), .v (.int .i64 0), .v (.int .i64 0), .any, .any], [])
def O33 (n : Int) : Out := ⟨.exit 0, A33 n ++ [.v (.int .i64 0), .v (.int .i64 0), .v (.int .i64 0), .any, .any], []⟩
abbrev lv33 : List Nat := [0, 1, 2, 8, 9, 10, 6, 7]
theorem r33 (n : Int) : roundE (P := Try.prog) (Γ := Γf) [] Lno false 0 0 lp33 lv33 [] 49 (S33 n).1 (S33 n).2 =
  Tree.br false (Tree.chk true Tree.fail) (Tree.leaf (Out.mk (AEx.exit (0 : Nat)) [AV.v (Value.slice none (0 : Nat) (0 : Nat)), AV.v (Value.int IntKind.i64 n), AV.fn (34 : FuncId) [] [], AV.v
    (Value.int IntKind.i64 (0 : Int)), AV.v (Value.int IntKind.i64 (0 : Int)), AV.v (Value.int IntKind.i64 (0 : Int)), AV.any, AV.any] [])) := by kernel_rfl
theorem loop33 (n : Int) : LoopOK Try.prog Γf 0 49 lp33 (LSpec.at lv33 [] (S33 n) (O33 n)) := by
  refine loop_at (S := fun _ : Unit => S33 n) (O := fun _ => O33 n) (pre := fun _ => True) (k := 0) (fun _ => 0) (fun x _ => .of (L := Lno) (failOK fun _ _ _ => rfl) (r33 n) ?_) () trivial
  simp only [or_true, true_or, false_or, or_false, and_false, false_and, cond_true, cond_false, Bool.not_true, Bool.not_false, Bool.false_eq_true, Bool.true_eq_false, not_true_eq_false, not_false_eq_true, false_implies, true_implies, implies_true, Nat.blt_eq, owesN, owesX, owesR, notT, sat_brT, sat_brF, sat_chkT, cl_iff, cl_false, AV.le_refl, AV.le_any, OLe_refl, OLe_none, sat_brN, Tree.sat_chk, Tree.sat_leaf, Tree.sat_fail, Nat.zero_add, Nat.sub_zero, Int.toNat_natCast, LeH_cons, LeH_nil, LeL_cons, LeL_nil, and_true, true_and, Bool.and_eq_true, Bool.or_eq_true, decide_eq_true_eq, decide_eq_false_iff_not, Bool.cond_true_left, Bool.cond_false_right, List.cons_append, List.nil_append, List.map_cons, List.map_nil]
  repeat' (first | apply And.intro | intro _hc)
  all_goals first | omega | contradiction | exact AV.le_refl _ | exact AV.le_any _ | exact OLe.refl _ | exact OLe.none _ | exact LeH.refl _ | exact LeL.refl _ | exact AV.le.bs _ | exact AV.le.sb _ | exact rfl | (exfalso; omega) | contradiction
theorem run33 (n : Int) : bodyE (P := Try.prog) (Γ := Γf) [] (fun _ => LSpec.at lv33 [] (S33 n) (O33 n)) false 49 [.tmp 6, .tmp 7] (bodyOf Try.f33) (A33 n) [] =
  Tree.chk (cl (LeL [AV.v (Value.slice none (0 : Nat) (0 : Nat)), AV.v (Value.int IntKind.i64 n), AV.fn (34 : FuncId) [] [], AV.v (Value.int IntKind.i64 (0 : Int)), AV.v (Value.int IntKind.i64
    (0 : Int)), AV.v (Value.int IntKind.i64 (0 : Int)), AV.v (Value.int IntKind.i64 (0 : Int)), AV.v (Value.bool false)] [AV.v (Value.slice none (0 : Nat) (0 : Nat)), AV.v (Value.int
    IntKind.i64 n), AV.fn (34 : FuncId) [] [], AV.v (Value.int IntKind.i64 (0 : Int)), AV.v (Value.int IntKind.i64 (0 : Int)), AV.v (Value.int IntKind.i64 (0 : Int)), AV.any, AV.any] ∧ LeH
    [] [])) (Tree.br false Tree.fail (Tree.leaf (Ans.mk (AV.tup [AV.v (Value.int IntKind.i64 (0 : Int)), AV.v (Value.bool false)]) []))) := by kernel_rfl
theorem ans33 {n : Int} : Answers Try.prog Γf 33 (A33 n) [] (.tup [.v (.int .i64 0), .v (.bool false)]) [] [] :=
  answers (fn := Try.f33) (c := bodyOf Try.f33) (ntmps := 49) (results := [.tmp 6, .tmp 7]) [] (fun _ => LSpec.at lv33 [] (S33 n) (O33 n)) false Try.func33 (by kernel_rfl) (by kernel_rfl) (by kernel_rfl) (by kernel_rfl) (by simp) rfl (oneLoop (b := lp33) (by kernel_rfl) (loop33 n)) <| Meets.of (run33 n) <| by
    simp only [or_true, true_or, false_or, or_false, and_false, false_and, cond_true, cond_false, Bool.not_true, Bool.not_false, Bool.false_eq_true, Bool.true_eq_false, not_true_eq_false, not_false_eq_true, false_implies, true_implies, implies_true, Nat.blt_eq, owesN, owesX, owesR, notT, sat_brT, sat_brF, sat_chkT, cl_iff, cl_false, AV.le_refl, AV.le_any, OLe_refl, OLe_none, sat_brN, Tree.sat_chk, Tree.sat_leaf, Tree.sat_fail, Nat.zero_add, Nat.sub_zero, Int.toNat_natCast, LeH_cons, LeH_nil, LeL_cons, LeL_nil, and_true, true_and, Bool.and_eq_true, Bool.or_eq_true, decide_eq_true_eq, decide_eq_false_iff_not, Bool.cond_true_left, Bool.cond_false_right, List.cons_append, List.nil_append, List.map_cons, List.map_nil]
    repeat' (first | apply And.intro | intro _hc)
    all_goals first | omega | contradiction | exact AV.le_refl _ | exact AV.le_any _ | exact OLe.refl _ | exact OLe.none _ | exact LeH.refl _ | exact LeL.refl _ | exact AV.le.bs _ | exact AV.le.sb _ | (exfalso; omega) | contradiction
end Go.Eng.F

/- fetch: all are asked: the rounds, what is wanted. -/
namespace Go.Eng.F
open Go Go.Eng Go.Eng.M Go.Proofs
set_option linter.unusedSimpArgs false
set_option linter.unusedVariables false
theorem run22 (n : Int) : bodyE (P := Try.prog) (Γ := Γf) [] Lno false 95 [.tmp 6] (bodyOf Try.f22) [.v (.slice none 0 0), .v (.int .i64 0), .hs 0 0 1] [FW n 0] =
  Tree.chk true (Tree.br false (Tree.leaf (Ans.mk (AV.v (Value.slice none (0 : Nat) (0 : Nat))) [some (Blk.arr (2 : Nat) (1 : Nat) fun x => [AV.v (Value.int IntKind.i64 n), AV.v (Value.int
    IntKind.i64 (0 : Int))])])) (Tree.br true (Tree.chk true (Tree.leaf (Ans.mk (AV.hs (1 : Nat) (0 : Nat) (1 : Nat)) [some (Blk.arr (2 : Nat) (1 : Nat) fun x => [AV.v (Value.int IntKind.i64
    n), AV.v (Value.int IntKind.i64 (0 : Int))]), some (Blk.arr (2 : Nat) (1 : Nat) fun j => [AV.v (Value.int IntKind.i64 n), AV.v (Value.int IntKind.i64 (0 : Int))])]))) Tree.fail)) := by kernel_rfl
abbrev FN (all me mo : Int) : Blk := .row [.v (.int .i64 all), .v (.int .i64 me), .v (.int .i64 4), .v (.int .i64 mo), .v (.slice none 0 0)]
theorem run21 (all me mo n : Int) : bodyE (P := Try.prog) (Γ := Γf) [CT.at 33 (ans33 (n := n))] Lno false 14 [.tmp 4, .tmp 5] (bodyOf Try.f21) [.ptr 0 0, .v (.int .i64 n)] [FN all me mo] =
  Tree.chk (cl (LeL [AV.v (Value.slice none (0 : Nat) (0 : Nat)), AV.v (Value.int IntKind.i64 n), AV.fn (34 : Nat) [] []] [AV.v (Value.slice none (0 : Nat) (0 : Nat)), AV.v (Value.int
    IntKind.i64 n), AV.fn (34 : FuncId) [] []] ∧ LeH [] [])) (Tree.leaf (Ans.mk (AV.tup [AV.v (Value.int IntKind.i64 (0 : Int)), AV.v (Value.bool false)]) [some (Blk.row [AV.v (Value.int
    IntKind.i64 all), AV.v (Value.int IntKind.i64 me), AV.v (Value.int IntKind.i64 (4 : Int)), AV.v (Value.int IntKind.i64 mo), AV.v (Value.slice none (0 : Nat) (0 : Nat))])])) := by kernel_rfl
theorem ans21 {all me mo n : Int} : Answers Try.prog Γf 21 [.ptr 0 0, .v (.int .i64 n)] [FN all me mo] (.tup [.v (.int .i64 0), .v (.bool false)]) [some (FN all me mo)] [] :=
  answers (fn := Try.f21) (c := bodyOf Try.f21) (ntmps := 14) (results := [.tmp 4, .tmp 5]) [CT.at 33 (ans33 (n := n))] Lno false Try.func21 (by kernel_rfl) (by kernel_rfl) (by kernel_rfl) (by kernel_rfl) (by simp) rfl (noLoops (by kernel_rfl)) <| Meets.of (run21 all me mo n) <| by
    simp only [or_true, true_or, false_or, or_false, and_false, false_and, cond_true, cond_false, Bool.not_true, Bool.not_false, Bool.false_eq_true, Bool.true_eq_false, not_true_eq_false, not_false_eq_true, false_implies, true_implies, implies_true, Nat.blt_eq, owesN, owesX, owesR, notT, sat_brT, sat_brF, sat_chkT, cl_iff, cl_false, AV.le_refl, AV.le_any, OLe_refl, OLe_none, sat_brN, Tree.sat_chk, Tree.sat_leaf, Tree.sat_fail, Nat.zero_add, Nat.sub_zero, Int.toNat_natCast, LeH_cons, LeH_nil, LeL_cons, LeL_nil, and_true, true_and, Bool.and_eq_true, Bool.or_eq_true, decide_eq_true_eq, decide_eq_false_iff_not, Bool.cond_true_left, Bool.cond_false_right, List.cons_append, List.nil_append, List.map_cons, List.map_nil]
    repeat' (first | apply And.intro | intro _hc)
    all_goals first | omega | contradiction | exact AV.le_refl _ | exact AV.le_any _ | exact OLe.refl _ | exact OLe.none _ | exact LeH.refl _ | exact LeL.refl _ | exact AV.le.bs _ | exact AV.le.sb _ | (exfalso; omega) | contradiction
noncomputable abbrev lp5 : Code := loopOf (bodyOf Try.f5) 0
structure X5 where
  f : Int
  me : Int
  n : Int
  mo : Int
  i : Nat
abbrev X5.all (x : X5) : Int := timesF 3 x.f
def S5 (x : X5) (s : Int) : List AV × Heap := ([.v (.int .i64 x.f), .v (.int .i64 x.me), .v (.int .i64 x.n), .v (.int .i64 x.mo), .ptr 0 0, .v (.int .u32 s), .v (.int .i64 (x.i : Int)), .any], (FT (timesF 3 x.f) x.me x.mo x.n (x.i : Int)).map some)
abbrev lv5 : List Nat := [0, 1, 2, 9, 10, 12, 13, 8]
theorem r5 (x : X5) (s s' to t1 c : Int) (h13 : Answers Try.prog Γf 13 [.ptr 0 0] (FT (timesF 3 x.f) x.me x.mo x.n (x.i : Int)) (.hs 2 0 1) [some (FR 1 (timesF 3 x.f) x.me x.mo), some (FW x.n t1)] [FO x.n to (x.i : Int)]) (h18 : Answers Try.prog Γf 18 [.v (.int .u32 s), .v (.int .i64 to)] [] (.tup [.v (.int .u32 s'), .v (.int .i64 0)]) [] []) (h19 : Answers Try.prog Γf 19 [.v (.int .u32 s')] [] (.v (.int .i64 c)) [] []) : roundE (P := Try.prog) (Γ := Γf) [CT.at 13 h13, CT.at 18 h18, CT.at 19 h19, FetQ.c8] Lno false 0 0 lp5 lv5 [] 119 (S5 x s).1 (S5 x s).2 =
  Tree.br (decide ((↑x.i : Int) < x.mo)) (Tree.chk (cl (LeL [AV.ptr (0 : Nat) (0 : Nat)] [AV.ptr (0 : Nat) (0 : Nat)] ∧ LeH [some (Blk.row [AV.v (Value.int IntKind.i64 (timesF (3 : Int) x.f)),
    AV.v (Value.int IntKind.i64 x.me), AV.v (Value.int IntKind.i64 (4 : Int)), AV.v (Value.int IntKind.i64 x.mo), AV.hs (1 : Nat) (0 : Nat) (1 : Nat)]), some (Blk.arr (2 : Nat) (1 : Nat) fun
    x_1 => [AV.v (Value.int IntKind.i64 x.n), AV.v (Value.int IntKind.i64 (↑x.i : Int))])] [some (Blk.row [AV.v (Value.int IntKind.i64 (timesF (3 : Int) x.f)), AV.v (Value.int IntKind.i64
    x.me), AV.v (Value.int IntKind.i64 (4 : Int)), AV.v (Value.int IntKind.i64 x.mo), AV.hs (1 : Nat) (0 : Nat) (1 : Nat)]), some (Blk.arr (2 : Nat) (1 : Nat) fun x_1 => [AV.v (Value.int
    IntKind.i64 x.n), AV.v (Value.int IntKind.i64 (↑x.i : Int))])])) (Tree.chk (bif !decide (x.n = x.n) then true else bif !decide ((↑x.i : Int) = (↑x.i : Int)) then true else bif decide (to
    = x.me) then true else bif decide (to < (0 : Int)) then true else true) (Tree.br (bif !decide (x.n = x.n) then true else bif !decide ((↑x.i : Int) = (↑x.i : Int)) then true else bif
    decide (to = x.me) then true else bif decide (to < (0 : Int)) then true else decide (timesF (3 : Int) x.f ≤ to)) (Tree.leaf (Out.mk AEx.ret [AV.v (Value.int IntKind.i64 x.f), AV.v
    (Value.int IntKind.i64 x.me), AV.v (Value.int IntKind.i64 x.n), AV.v (Value.int IntKind.i64 x.mo), AV.ptr (0 : Nat) (0 : Nat), AV.v (Value.int IntKind.u32 s), AV.v (Value.int IntKind.i64
    (↑x.i : Int)), AV.v (Value.bool false)] [some (Blk.row [AV.v (Value.int IntKind.i64 (timesF (3 : Int) x.f)), AV.v (Value.int IntKind.i64 x.me), AV.v (Value.int IntKind.i64 (4 : Int)),
    AV.v (Value.int IntKind.i64 x.mo), AV.hs (1 : Nat) (0 : Nat) (1 : Nat)]), some (Blk.arr (2 : Nat) (1 : Nat) fun x_1 => [AV.v (Value.int IntKind.i64 x.n), AV.v (Value.int IntKind.i64
    t1)])])) (Tree.chk (cl (LeL [AV.v (Value.int IntKind.u32 s), AV.v (Value.int IntKind.i64 to)] [AV.v (Value.int IntKind.u32 s), AV.v (Value.int IntKind.i64 to)] ∧ LeH [] [])) (Tree.chk
    (bif decide (IntKind.wrap IntKind.i64 (timesF (3 : Int) x.f - (1 : Int)) ≤ IntKind.wrap IntKind.i64 ((↑x.i : Int) + (1 : Int))) then cl (LeL [AV.v (Value.int IntKind.u32 s')] [AV.v
    (Value.int IntKind.u32 s')] ∧ LeH [] []) && true else true) (Tree.br (bif decide (IntKind.wrap IntKind.i64 (timesF (3 : Int) x.f - (1 : Int)) ≤ IntKind.wrap IntKind.i64 ((↑x.i : Int) +
    (1 : Int))) then !decide (c = IntKind.wrap IntKind.i64 (timesF (3 : Int) x.f - (1 : Int))) else false) (Tree.leaf (Out.mk AEx.ret [AV.v (Value.int IntKind.i64 x.f), AV.v (Value.int
    IntKind.i64 x.me), AV.v (Value.int IntKind.i64 x.n), AV.v (Value.int IntKind.i64 x.mo), AV.ptr (0 : Nat) (0 : Nat), AV.v (Value.int IntKind.u32 s'), AV.v (Value.int IntKind.i64 (↑x.i :
    Int)), AV.v (Value.bool false)] [some (Blk.row [AV.v (Value.int IntKind.i64 (timesF (3 : Int) x.f)), AV.v (Value.int IntKind.i64 x.me), AV.v (Value.int IntKind.i64 (4 : Int)), AV.v
    (Value.int IntKind.i64 x.mo), AV.hs (1 : Nat) (0 : Nat) (1 : Nat)]), some (Blk.arr (2 : Nat) (1 : Nat) fun x_1 => [AV.v (Value.int IntKind.i64 x.n), AV.v (Value.int IntKind.i64 t1)])]))
    (Tree.leaf (Out.mk AEx.normal [AV.v (Value.int IntKind.i64 x.f), AV.v (Value.int IntKind.i64 x.me), AV.v (Value.int IntKind.i64 x.n), AV.v (Value.int IntKind.i64 x.mo), AV.ptr (0 : Nat)
    (0 : Nat), AV.v (Value.int IntKind.u32 s'), AV.v (Value.int IntKind.i64 (IntKind.wrap IntKind.i64 ((↑x.i : Int) + (1 : Int)))), AV.any] [some (Blk.row [AV.v (Value.int IntKind.i64
    (timesF (3 : Int) x.f)), AV.v (Value.int IntKind.i64 x.me), AV.v (Value.int IntKind.i64 (4 : Int)), AV.v (Value.int IntKind.i64 x.mo), AV.hs (1 : Nat) (0 : Nat) (1 : Nat)]), some
    (Blk.arr (2 : Nat) (1 : Nat) fun x_1 => [AV.v (Value.int IntKind.i64 x.n), AV.v (Value.int IntKind.i64 t1)])])))))))) (Tree.leaf (Out.mk (AEx.exit (0 : Nat)) [AV.v (Value.int IntKind.i64
    x.f), AV.v (Value.int IntKind.i64 x.me), AV.v (Value.int IntKind.i64 x.n), AV.v (Value.int IntKind.i64 x.mo), AV.ptr (0 : Nat) (0 : Nat), AV.v (Value.int IntKind.u32 s), AV.v (Value.int
    IntKind.i64 (↑x.i : Int)), AV.any] [some (Blk.row [AV.v (Value.int IntKind.i64 (timesF (3 : Int) x.f)), AV.v (Value.int IntKind.i64 x.me), AV.v (Value.int IntKind.i64 (4 : Int)), AV.v
    (Value.int IntKind.i64 x.mo), AV.hs (1 : Nat) (0 : Nat) (1 : Nat)]), some (Blk.arr (2 : Nat) (1 : Nat) fun x_1 => [AV.v (Value.int IntKind.i64 x.n), AV.v (Value.int IntKind.i64 (↑x.i :
    Int))])])) := by kernel_rfl
theorem r5e (x : X5) (s : Int) : roundE (P := Try.prog) (Γ := Γf) [] Lno false 0 0 lp5 lv5 [] 119 (S5 x s).1 (S5 x s).2 =
  Tree.br (decide ((↑x.i : Int) < x.mo)) Tree.fail (Tree.leaf (Out.mk (AEx.exit (0 : Nat)) [AV.v (Value.int IntKind.i64 x.f), AV.v (Value.int IntKind.i64 x.me), AV.v (Value.int IntKind.i64
    x.n), AV.v (Value.int IntKind.i64 x.mo), AV.ptr (0 : Nat) (0 : Nat), AV.v (Value.int IntKind.u32 s), AV.v (Value.int IntKind.i64 (↑x.i : Int)), AV.any] [some (Blk.row [AV.v (Value.int
    IntKind.i64 (timesF (3 : Int) x.f)), AV.v (Value.int IntKind.i64 x.me), AV.v (Value.int IntKind.i64 (4 : Int)), AV.v (Value.int IntKind.i64 x.mo), AV.hs (1 : Nat) (0 : Nat) (1 : Nat)]),
    some (Blk.arr (2 : Nat) (1 : Nat) fun x_1 => [AV.v (Value.int IntKind.i64 x.n), AV.v (Value.int IntKind.i64 (↑x.i : Int))])])) := by kernel_rfl
end Go.Eng.F
