/- CertForms holds at every input: no condition beyond the row own cells. -/
import Derived.Test.YtepeeokpkefgmaaPart3
import Derived.Test.YtepeeokpkefgmaaRows
import Derived.ProofKit
import Derived.LaidMore
import Derived.OpenShut
import Derived.Stop.Joined
/- Summaries of loops and functions by what they begin with: a shape with parameters. -/
namespace Go.Eng
open Go
set_option linter.unusedSimpArgs false
set_option linter.unusedVariables false
section
variable {P : Program} {Γ : Nat → AV} {ip : Bool} {m : Nat} {T : List (CT P Γ)} {X : Type}
open Classical in
/-- a loop's summary: at the states S x it ends as O x tells -/
noncomputable def LSpec.by (live : List Nat) (nils : List (Nat × TypeId)) (ext : List AV → Heap → Option X) (S : X → List AV × Heap) (pre : X → Prop) (O : X → Tree Out) : LSpec :=
  ⟨live, nils, fun vals H => match ext vals H with
    | some x => .chk (decide ((vals, H) = S x)) (.chk (decide (pre x)) (O x))
    | none => .fail⟩
/-- what a round owes -/
def OwesX (S : X → List AV × Heap) (pre : X → Prop) (O : X → Tree Out) (μ : X → Nat) (n : Nat) (o r : Out) : Prop :=
  match r.ex with
  | .normal => ∃ x', LeL r.fr (S x').1 ∧ LeH r.H (S x').2 ∧ pre x' ∧ (O x').get = some o ∧ μ x' < n
  | _ => r.ex = o.ex ∧ LeL r.fr o.fr ∧ LeH r.H o.H
open Classical in
theorem loop_by {L : Nat → LSpec} {N k : Nat} {b : Code} {live : List Nat} {nils : List (Nat × TypeId)} {ext : List AV → Heap → Option X} {S : X → List AV × Heap} {pre : X → Prop} {O : X → Tree Out} (μ : X → Nat)
    (hL : ∀ (j : Nat) (b' : Code), (loopBodies b)[j]? = some b' → LoopOK P Γ m N b' (L (k + j)))
    (hr : ∀ x o, pre x → (O x).get = some o → (roundE T L ip m k b live nils N (S x).1 (S x).2).sat (OwesX S pre O μ (μ x) o)) : LoopOK P Γ m N b (LSpec.by live nils ext S pre O) := by
  -- at a state and an end: the least measure
  have key : ∀ o, LoopOK P Γ m N b ⟨live, nils, relSpec (fun vals H o => ∃ x, pre x ∧ (vals, H) = S x ∧ (O x).get = some o) o⟩ := fun o => by
    let Q : List AV → Heap → Nat → Prop := fun vals H n => ∃ x, pre x ∧ (vals, H) = S x ∧ (O x).get = some o ∧ μ x = n
    refine loop_ok (T := T) (ip := ip) (fun vals H => leastN (Q vals H)) hL fun vals H o' h => ?_
    obtain ⟨rfl, x0, h1, h2, h3⟩ := relSpec_get (Sp := fun vals H o => ∃ x, pre x ∧ (vals, H) = S x ∧ (O x).get = some o) (show (relSpec _ o vals H).get = some o' from h)
    obtain ⟨x, p1, p2, p3, p4⟩ := leastN_mem (p := Q vals H) ⟨μ x0, x0, h1, h2, h3, rfl⟩
    obtain ⟨r, r1, r2⟩ := Tree.sat_iff.1 (hr x o' p1 p3)
    have e1 : (S x).1 = vals := congrArg Prod.fst p2.symm
    have e2 : (S x).2 = H := congrArg Prod.snd p2.symm
    rw [e1, e2] at r1
    refine Tree.sat_iff.2 ⟨r, r1, ?_⟩
    unfold OwesX at r2
    unfold Owes
    cases hx : r.ex with
    | normal =>
      rw [hx] at r2
      obtain ⟨x', k1, k2, k3, k4, k5⟩ := r2
      refine ⟨(S x').1, (S x').2, k1, k2, relSpec_of (Sp := fun vals H o => ∃ x, pre x ∧ (vals, H) = S x ∧ (O x).get = some o) ⟨x', k3, rfl, k4⟩, ?_⟩
      refine Nat.lt_of_le_of_lt (leastN_le ⟨x', k3, rfl, k4, rfl⟩) ?_
      rw [← p4]; exact k5
    | exit i => rw [hx] at r2; exact r2
    | ret => rw [hx] at r2; exact r2
  intro vals H o h
  refine key o vals H o (show (relSpec (fun vals H o => ∃ x, pre x ∧ (vals, H) = S x ∧ (O x).get = some o) o vals H).get = some o from relSpec_of ?_)
  unfold LSpec.by at h
  simp only at h
  split at h
  · rename_i x hx
    obtain ⟨h1, h⟩ := Tree.chk_get h
    obtain ⟨h2, h⟩ := Tree.chk_get h
    exact ⟨x, of_decide_eq_true h2, of_decide_eq_true h1, h⟩
  · simp [Tree.get] at h
open Classical in
/-- a function's summary: called with A x it answers as O x tells -/
noncomputable def bySpec (ext : List AV → List Blk → Option X) (A : X → List AV × List Blk) (pre : X → Prop) (O : X → Tree Res) (args : List AV) (Hin : List Blk) : Tree Res :=
  match ext args Hin with
  | some x => .chk (decide ((args, Hin) = A x)) (.chk (decide (pre x)) (O x))
  | none => .fail
open Classical in
noncomputable def CT.by (f : FuncId) (fn : Func) (c : Code) (T : List (CT P Γ)) (L : X → Nat → LSpec) (ip : Bool) (ntmps : Nat) (results : List ResultVar) (ext : List AV → List Blk → Option X) (A : X → List AV × List Blk) (pre : X → Prop) (O : X → Tree Res)
    (hf : P.funcs[f]? = some fn) (hb : fn.body = some c) (hr : fn.results.toList = results)
    (hnt : fn.ntmps = ntmps) (hn : (fn.name == "runtime.NumGoroutine") = false)
    (hL : ∀ x, pre x → ∀ (j : Nat) (b : Code), (loopBodies c)[j]? = some b → LoopOK P Γ (A x).2.length ntmps b (L x j))
    (hs : ∀ x r, pre x → (O x).get = some r → (A x).1.length ≤ ntmps ∧ Meets (bodyE T (L x) ip ntmps results c (A x).1 (A x).2) r.val (r.heap (A x).2)) : CT P Γ where
  f := f
  spec := bySpec ext A pre O
  enters := callFunc_enters hf (by rw [hb]; rfl) hn
  ok := fun args Hin r h => by
    unfold bySpec at h
    split at h
    · rename_i x hx
      obtain ⟨h1, h⟩ := Tree.chk_get h
      obtain ⟨h2, h⟩ := Tree.chk_get h
      have h1 := decide_eq_true_iff.1 h1
      have h2 := decide_eq_true_iff.1 h2
      obtain ⟨k1, k2⟩ := hs x r h2 h
      obtain ⟨rfl, rfl⟩ : args = (A x).1 ∧ Hin = (A x).2 := by rw [← h1]; exact ⟨rfl, rfl⟩
      subst hr; subst hnt
      exact contract_of (T := T) (ip := ip) hf hb (L x) (hL x h2) k1 k2.ok
    · simp [Tree.get] at h
end
/-! ### bytes -/
/-- the cells of a text's bytes -/
def bsF (t : ByteArray) : Nat → List AV := fun j => [.v (.int .u8 (sbyte t j))]
theorem sbyte_range (t : ByteArray) (j : Nat) : 0 ≤ sbyte t j ∧ sbyte t j < 256 := by
  unfold sbyte
  have := (t.data[j]?.getD 0).toNat_lt
  omega
theorem allBytes_bsF (n : Nat) (t : ByteArray) : allBytes n (bsF t) = true := by
  unfold allBytes
  rw [List.all_eq_true]
  intro j _
  rfl
theorem textOf_bsF (t : ByteArray) : textOf t.size (bsF t) = t := by
  unfold textOf
  have : ((List.range t.size).map fun j => byteIn (bsF t j)) = t.data.toList := by
    refine List.ext_getElem? fun j => ?_
    simp only [List.getElem?_map, Array.getElem?_toList]
    rcases Nat.lt_or_ge j t.size with h | h
    · rw [List.getElem?_range h]
      have hd : t.data[j]? = some t.data[j] := by simp [show j < t.data.size from h]
      rw [hd]
      simp [bsF, byteIn, sbyte, hd]
    · rw [List.getElem?_eq_none (by simpa using h), Array.getElem?_eq_none (by simpa using h)]; rfl
  rw [this]
theorem textOf_bs {n : Nat} {t : ByteArray} (h : n = t.size) : textOf n (bsF t) = t := by rw [h, textOf_bsF]
end Go.Eng

/- Plain facts on bytes and on the bytes of numbers. -/
namespace Go.Eng
open Go
set_option linter.unusedSimpArgs false
set_option linter.unusedVariables false
theorem sbyte_append (a b : ByteArray) (j : Nat) : sbyte (a ++ b) j = if j < a.size then sbyte a j else sbyte b (j - a.size) := by
  unfold sbyte
  simp only [ByteArray.data_append, Array.getElem?_append]
  split
  · rename_i h; rw [if_pos (by simpa using h)]
  · rename_i h; rw [if_neg (by simpa using h)]; rfl
theorem or128 (a : Int) (h : 0 ≤ a) (h' : a < 256) : bitI .or .u8 a 128 = a % 128 + 128 := by
  obtain ⟨n, rfl⟩ := Int.eq_ofNat_of_zero_le h
  have : ∀ k : Fin 256, bitI .or .u8 ((k.val : Nat) : Int) 128 = ((k.val : Nat) : Int) % 128 + 128 := by decide +kernel
  exact this ⟨n, by omega⟩
theorem wrap64E {x : Int} : IntKind.i64.wrap x = (x + 9223372036854775808) % 18446744073709551616 - 9223372036854775808 := by
  simp [IntKind.wrap, IntKind.signed, IntKind.bits]
  omega
theorem wrapU8 {x : Int} : IntKind.u8.wrap x = x % 256 := by
  simp [IntKind.wrap, IntKind.signed, IntKind.bits]
theorem wrapU64 {x : Int} : IntKind.u64.wrap x = x % 18446744073709551616 := by
  simp [IntKind.wrap, IntKind.signed, IntKind.bits]
theorem wrapU32 {x : Int} : IntKind.u32.wrap x = x % 4294967296 := by
  simp [IntKind.wrap, IntKind.signed, IntKind.bits]
/-- one byte as a text -/
def oneB (n : Nat) : ByteArray := ⟨#[UInt8.ofNat n]⟩
@[simp] theorem oneB_size (n : Nat) : (oneB n).size = 1 := rfl
theorem sbyte_oneB {n : Nat} (h : n < 256) : sbyte (oneB n) 0 = (n : Int) := by
  show (((UInt8.ofNat n).toNat : Nat) : Int) = _
  simp
  omega
theorem sbyte_out {t : ByteArray} {j : Nat} (h : t.size ≤ j) : sbyte t j = 0 := by
  unfold sbyte
  rw [Array.getElem?_eq_none (by simpa using h)]; rfl
theorem bs_eq {a b : ByteArray} (hs : a.size = b.size) (h : ∀ j, j < a.size → sbyte a j = sbyte b j) : a = b := by
  have : a.data = b.data := by
    refine Array.ext hs fun i h1 h2 => ?_
    have := h i h1
    unfold sbyte at this
    simp only [Array.getElem?_eq_getElem h1, Array.getElem?_eq_getElem h2, Option.getD_some] at this
    exact UInt8.toNat_inj.1 (by omega)
  cases a; cases b; simp at this; rw [this]
/-- the higher digits of a number, each with its mark; what is left of it -/
def hiB (n : Nat) : ByteArray := if h : n < 128 then ⟨#[]⟩ else oneB (n % 128 + 128) ++ hiB (n / 128)
termination_by n
decreasing_by omega
def loN (n : Nat) : Nat := if h : n < 128 then n else loN (n / 128)
termination_by n
decreasing_by omega
/-- a number's bytes -/
def numB (n : Nat) : ByteArray := hiB n ++ oneB (loN n)
theorem hiB_lt {n : Nat} (h : n < 128) : hiB n = ⟨#[]⟩ := by rw [hiB, dif_pos h]
theorem hiB_ge {n : Nat} (h : ¬ n < 128) : hiB n = oneB (n % 128 + 128) ++ hiB (n / 128) := by rw [hiB, dif_neg h]
theorem loN_lt {n : Nat} (h : n < 128) : loN n = n := by rw [loN, dif_pos h]
theorem loN_ge {n : Nat} (h : ¬ n < 128) : loN n = loN (n / 128) := by rw [loN, dif_neg h]
theorem loN_small (n : Nat) : loN n < 128 := by
  induction n using Nat.strongRecOn with
  | _ n ih =>
    by_cases h : n < 128
    · rw [loN_lt h]; exact h
    · rw [loN_ge h]; exact ih _ (by omega)
theorem hiB_size (n : Nat) (k : Nat) (h : n < 128 ^ (k + 1)) : (hiB n).size ≤ k := by
  induction k generalizing n with
  | zero => rw [hiB_lt (by simpa using h)]; exact Nat.le_refl _
  | succ k ih =>
    by_cases hn : n < 128
    · rw [hiB_lt hn]; exact Nat.zero_le _
    · rw [hiB_ge hn]
      have := ih (n / 128) (by rw [Nat.div_lt_iff_lt_mul (by decide)]; rw [Nat.pow_succ] at h; exact h)
      simp only [ByteArray.size_append, oneB_size]; omega
theorem numB_size {n : Nat} (h : n ≤ 4611686018427387904) : (numB n).size ≤ 9 ∧ 1 ≤ (numB n).size := by
  unfold numB
  have := hiB_size n 8 (by omega)
  simp only [ByteArray.size_append, oneB_size]; omega
theorem append_empty (t : ByteArray) : t ++ (⟨#[]⟩ : ByteArray) = t := by
  apply bs_eq
  · simp
    rfl
  · intro j hj
    rw [sbyte_append]
    split
    · rfl
    · rename_i h
      have : (t ++ (⟨#[]⟩ : ByteArray)).size = t.size := by simp; rfl
      omega
theorem empty_append (t : ByteArray) : (⟨#[]⟩ : ByteArray) ++ t = t := by
  apply bs_eq
  · simp
    rfl
  · intro j hj
    rw [sbyte_append]
    split
    · rename_i h; exact absurd h (Nat.not_lt_zero _)
    · rfl
theorem push_eq {t : ByteArray} {v : Int} (h : 0 ≤ v) (h' : v < 256) {j : Nat} (hj : j < t.size + 1) :
    (bif decide (j < t.size) then sbyte t ((0 : Nat) + j) else bif ((0 : Nat) + (j - t.size)).beq (0 : Nat) then v else (0 : Int)) = sbyte (t ++ oneB v.toNat) j := by
  rw [sbyte_append]
  by_cases hl : j < t.size
  · rw [decide_eq_true hl, if_pos hl, Nat.zero_add]; rfl
  · obtain rfl : j = t.size := by omega
    rw [decide_eq_false hl, if_neg hl, Nat.sub_self, sbyte_oneB (by omega)]
    simp
    omega
theorem textOf_one (v : Int) : (textOf (1 : Nat) fun j => [AV.v (Value.int IntKind.u8 (bif ((0 : Nat) + j).beq (0 : Nat) then v else (0 : Int)))]) = oneB v.toNat := rfl
theorem tdiv_nat (n k : Nat) : (n : Int).tdiv (k : Int) = ((n / k : Nat) : Int) := by
  rw [Int.tdiv_eq_ediv_of_nonneg (by omega)]; rfl
theorem tmod_nat (n k : Nat) : (n : Int).tmod (k : Int) = ((n % k : Nat) : Int) := by
  rw [Int.tmod_eq_emod_of_nonneg (by omega)]; rfl
theorem bsF_len (t : ByteArray) (e : Nat) : (bsF t e).length = 1 := rfl
end Go.Eng

/- Summaries of loops and functions at one state, which may be told more exactly than the summary asks. -/
namespace Go.Eng
open Go
set_option linter.unusedSimpArgs false
set_option linter.unusedVariables false
/-- a statement as a test -/
noncomputable def cl (p : Prop) : Bool := @decide p (Classical.propDecidable p)
theorem cl_iff {p : Prop} : cl p = true ↔ p := by unfold cl; exact @decide_eq_true_iff p (Classical.propDecidable p)
section
variable {P : Program} {Γ : Nat → AV} {m : Nat} {X : Type}
/-- a loop's summary at one state -/
noncomputable def LSpec.at (live : List Nat) (nils : List (Nat × TypeId)) (s : List AV × Heap) (o : Out) : LSpec :=
  ⟨live, nils, fun vals H => .chk (cl (LeL vals s.1 ∧ LeH H s.2)) (.leaf o)⟩
/-- what a round owes -/
def OwesA (S : X → List AV × Heap) (pre : X → Prop) (O : X → Out) (μ : X → Nat) (n : Nat) (o r : Out) : Prop :=
  match r.ex with
  | .normal => ∃ x', LeL r.fr (S x').1 ∧ LeH r.H (S x').2 ∧ pre x' ∧ O x' = o ∧ μ x' < n
  | _ => r.ex = o.ex ∧ LeL r.fr o.fr ∧ LeH r.H o.H
/-- a round's proof, with the summaries that it uses -/
structure RoundOK (P : Program) (Γ : Nat → AV) (m N k : Nat) (b : Code) (live : List Nat) (nils : List (Nat × TypeId)) (s : List AV × Heap) (Q : Out → Prop) : Prop where
  ok : ∃ (T : List (CT P Γ)) (L : Nat → LSpec) (ip : Bool), (∀ (j : Nat) (b' : Code), (loopBodies b)[j]? = some b' → LoopOK P Γ m N b' (L (k + j))) ∧ (roundE T L ip m k b live nils N s.1 s.2).sat Q
theorem loop_at {N k : Nat} {b : Code} {live : List Nat} {nils : List (Nat × TypeId)} {S : X → List AV × Heap} {pre : X → Prop} {O : X → Out} (μ : X → Nat)
    (hr : ∀ x, pre x → RoundOK P Γ m N k b live nils (S x) (OwesA S pre O μ (μ x) (O x))) : ∀ x, pre x → LoopOK P Γ m N b (LSpec.at live nils (S x) (O x)) := by
  intro x0 hp0 vals0 H0 o h0 κ σ0 φ0 a0 w0 Q hG0 hN0 hI0 hQ
  obtain ⟨hs0, h0⟩ := Tree.chk_get (show (Tree.chk _ (Tree.leaf (O x0))).get = some o from h0)
  obtain rfl := Tree.leaf_get h0
  obtain ⟨hle1, hle2⟩ := cl_iff.1 hs0
  let J : Act → World → Nat → Prop := fun a w n => ∃ x σ φ, pre x ∧ O x = O x0 ∧ σ0.le σ ∧ (∀ k, k < m → φ k = φ0 k) ∧ a.defers = a0.defers ∧ a.tmps.size = N ∧
    Inv κ m σ φ (expand N live (S x).1) (S x).2 a w ∧ μ x = n
  refine wp_loop (fun a w => ∃ n, J a w n) (fun a w => leastN (J a w)) ⟨_, x0, σ0, φ0, hp0, rfl, Store.le_refl _, fun _ _ => rfl, rfl, hN0, hI0.le hle1 hle2, rfl⟩ ?_
  intro a w hJ
  obtain ⟨x, σ, φ, hs, ho, e1, e2, e3, e4, hI, hn⟩ := leastN_mem hJ
  obtain ⟨T, L, ip, hL, hrr⟩ := (hr x hs).ok
  obtain ⟨r, hr1, hr2⟩ := Tree.sat_iff.1 hrr
  unfold roundE at hr1
  obtain ⟨o1, ho1, ho2⟩ := Tree.get_bind_some hr1
  refine code_ok b k _ (S x).2 o1 σ φ a w _ hL ho1 hI (hG0.mono e1) expand_len ?_
  intro a' w' σ' φ' f1 f2 f3 f4 hI'
  split at ho2
  · rename_i vals' H' hh
    simp only [Tree.get, Option.some.injEq] at ho2
    subst ho2
    obtain ⟨φ2, g1, hI2⟩ := head_ok hh hI'
    have hN' : a'.tmps.size = N := hI'.tmps.trans f4
    rw [hN'] at hI2
    unfold OwesA at hr2
    cases hex : o1.ex with
    | normal =>
      simp only [hex] at hr2
      obtain ⟨x', k1, k2, k3, k5, k4⟩ := hr2
      have hJ' : J a' w' (μ x') := ⟨x', σ', φ2, k3, k5.trans ho, Store.le_trans e1 f1, fun k hk => (g1 k hk).trans ((f2 k hk).trans (e2 k hk)), f3.trans e3, hN', hI2.le k1 k2, rfl⟩
      refine ⟨⟨_, hJ'⟩, Nat.lt_of_le_of_lt (leastN_le hJ') ?_⟩
      rw [← hn]; exact k4
    | exit id =>
      simp only [hex, ho] at hr2
      obtain ⟨k1, k2, k3⟩ := hr2
      have := hQ a' w' σ' φ2 (Store.le_trans e1 f1) (fun k hk => (g1 k hk).trans ((f2 k hk).trans (e2 k hk))) (f3.trans e3) hN' (hI2.le k2 k3)
      rw [← k1] at this
      exact this
    | ret =>
      simp only [hex, ho] at hr2
      obtain ⟨k1, k2, k3⟩ := hr2
      have := hQ a' w' σ' φ2 (Store.le_trans e1 f1) (fun k hk => (g1 k hk).trans ((f2 k hk).trans (e2 k hk))) (f3.trans e3) hN' (hI2.le k2 k3)
      rw [← k1] at this
      exact this
  · simp [Tree.get] at ho2
/-- a contract holds where more is known -/
theorem Contract.more {f : FuncId} {args a0 : List AV} {Hin H0 : List Blk} {r r0 : Res} (h : Contract P Γ f a0 H0 r0) (hv : LeL args a0) (hH : LeH (Hin.map some) (H0.map some)) (he : r0.heap H0 = r.heap Hin) (hval : r0.val = r.val) : Contract P Γ f args Hin r := by
  intro σ φ w vals hG hV hn hR
  have hlen : Hin.length = H0.length := by simpa using hH.len
  have := h σ φ w vals hG ⟨by rw [← hV.1]; exact hv.len.symm, fun j c y hc hy => by
    obtain ⟨x, h1, h2⟩ := hv.at j c hc
    exact h2.v (hV.2 j x y h1 hy)⟩ (by rw [← hlen]; exact hn) (hR.le fun i b' hb => hH.get i b' hb)
  refine this.mono fun e w' ⟨σ', φ', v, e1, e2, e3, e4, e5⟩ => ⟨σ', φ', v, e1, by rw [← hval]; exact e2, by rw [← he]; exact e3, by rw [hlen]; exact e4, by rw [← he]; exact e5⟩
/-- a function's summary at one call: H1 is what becomes of the blocks that were handed in -/
noncomputable def atSpec (a0 : List AV) (H0 : List Blk) (v : AV) (H1 : List (Option Blk)) (new : List Blk) (args : List AV) (Hin : List Blk) : Tree Res :=
  .chk (cl (LeL args a0 ∧ LeH (Hin.map some) (H0.map some))) (.leaf { val := v, upd := H1.map some, new := new })
/-- a summary of a function of scalars, its loops by what it is called with -/
def CT.funL (f : FuncId) (fn : Func) (c : Code) (T : List (CT P Γ)) (L : List KC → Nat → LSpec) (ip : Bool) (ntmps : Nat) (results : List ResultVar) (sh : List Sh) (pre : List KC → Bool) (g : List KC → AV) (hf : P.funcs[f]? = some fn) (hb : fn.body = some c) (hr : fn.results.toList = results)
    (hnt : fn.ntmps = ntmps) (hn : (fn.name == "runtime.NumGoroutine") = false) (hsz : sh.length ≤ ntmps) (hL : ∀ l, kFit (shCels sh) l = true → pre l = true → ∀ (j : Nat) (b : Code), (loopBodies c)[j]? = some b → LoopOK P Γ 0 ntmps b (L l j))
    (hs : ∀ l, kFit (shCels sh) l = true → pre l = true → Gives (bodyE T (L l) ip ntmps results c (toSh sh l) []) (g l)) : CT P Γ where
  f := f
  spec := funSpec sh pre g
  enters := callFunc_enters hf (by rw [hb]; rfl) hn
  ok := fun args Hin r h => by
    unfold funSpec at h
    split at h
    · split at h
      · rename_i l hl
        obtain ⟨hp, h⟩ := Tree.chk_get h
        obtain rfl := Tree.leaf_get h
        by_cases hfit : kFit (shCels sh) l = true
        · have hlen := toSh_len sh l
          subst hr; subst hnt
          exact (contract_of (T := T) (ip := ip) (Hin := []) (r := { val := g l }) hf hb (L l) (hL l hfit hp) (by rw [hlen]; exact hsz) (hs l hfit hp).ok).weak fun σ φ ys hv => (unSh_ok hl hv).2
        · intro σ φ w vals hG hV
          exact absurd (unSh_ok hl hV).1 hfit
      · simp [Tree.get] at h
    · simp [Tree.get] at h
/-- what a function answers at one call -/
structure Answers (P : Program) (Γ : Nat → AV) (f : FuncId) (a0 : List AV) (H0 : List Blk) (v : AV) (H1 : List (Option Blk)) (new : List Blk) : Prop where
  len : H1.length = H0.length
  enters : ∀ (args : Array Value) (w : World), (callFunc f args).run P w = .ok (.enter f args) w
  ok : Contract P Γ f a0 H0 { val := v, upd := H1.map some, new := new }
theorem outOf_all : ∀ (Hin : List Blk) (us : List (Option Blk)), us.length = Hin.length → outOf Hin (us.map some) = us := outOf_somes
noncomputable def CT.at (f : FuncId) {a0 : List AV} {H0 : List Blk} {v : AV} {H1 : List (Option Blk)} {new : List Blk} (h : Answers P Γ f a0 H0 v H1 new) : CT P Γ where
  f := f
  spec := atSpec a0 H0 v H1 new
  enters := h.enters
  ok := fun args Hin r hr => by
    obtain ⟨h1, h2⟩ := Tree.chk_get hr
    obtain rfl := Tree.leaf_get h2
    obtain ⟨hv, hH⟩ := cl_iff.1 h1
    refine h.ok.more hv hH ?_ rfl
    have hlen : Hin.length = H0.length := by simpa using hH.len
    unfold Res.heap
    rw [outOf_all _ _ h.len, outOf_all _ _ (h.len.trans hlen.symm)]
/-- by its body -/
theorem answers {f : FuncId} {fn : Func} {c : Code} (T : List (CT P Γ)) (L : Nat → LSpec) (ip : Bool) {ntmps : Nat} {results : List ResultVar} {a0 : List AV} {H0 : List Blk} {v : AV} {H1 : List (Option Blk)} {new : List Blk}
    (hf : P.funcs[f]? = some fn) (hb : fn.body = some c) (hr : fn.results.toList = results) (hnt : fn.ntmps = ntmps) (hn : (fn.name == "runtime.NumGoroutine") = false) (hsz : a0.length ≤ ntmps) (hlen : H1.length = H0.length)
    (hL : ∀ (j : Nat) (b : Code), (loopBodies c)[j]? = some b → LoopOK P Γ H0.length ntmps b (L j))
    (hs : Meets (bodyE T L ip ntmps results c a0 H0) v (H1 ++ new.map some)) : Answers P Γ f a0 H0 v H1 new where
  len := hlen
  enters := callFunc_enters hf (by rw [hb]; rfl) hn
  ok := by
    subst hr; subst hnt
    refine contract_of (T := T) (ip := ip) hf hb L hL hsz ?_
    have e : ({ val := v, upd := H1.map some, new := new } : Res).heap H0 = H1 ++ new.map some := by
      unfold Res.heap
      rw [outOf_all _ _ hlen]
    rw [e]
    exact hs.ok
end
end Go.Eng

/- wire: copies of bytes, and the bytes of a number: what the program answers. -/
namespace Go.Eng.Ce
open Go Go.Eng Go.Proofs
set_option linter.unusedSimpArgs false
set_option linter.unusedVariables false
noncomputable def loopOf (c : Code) (j : Nat) : Code := match (loopBodies c)[j]? with | some b => b | none => .skip
/-- bytes as an argument: nil, of the caller's own, or only read -/
inductive BA where
  | nil
  | sl (t : ByteArray)
  | hs (t : ByteArray)
def BA.t : BA → ByteArray
  | .nil => ⟨#[]⟩
  | .sl t => t
  | .hs t => t
def BA.av : BA → AV
  | .nil => .v (.slice none 0 0)
  | .sl t => .sl 1 t.size (bsF t)
  | .hs t => .hs 0 0 t.size
def BA.bl : BA → List Blk
  | .hs t => [.arr 1 t.size (bsF t)]
  | _ => []
def BA.n : BA → Nat
  | .hs _ => 1
  | _ => 0
def small (t : ByteArray) : Prop := t.size ≤ 1000000000
theorem runCn  : bodyE (P := Try.prog) (Γ := Γd) [] Lno false 8 [.tmp 2] (bodyOf Try.f27) [.v (.slice none 0 0)] [] =
  Tree.leaf (Ans.mk (AV.v (Value.slice none (0 : Nat) (0 : Nat))) []) := by kernel_rfl
theorem runCs (t : ByteArray) : bodyE (P := Try.prog) (Γ := Γd) [] Lno false 8 [.tmp 2] (bodyOf Try.f27) [.sl 1 t.size (bsF t)] [] =
  Tree.chk (roomOk (1 : Nat) ((0 : Nat) + t.size))
  (Tree.leaf
    (Ans.mk (AV.hs (0 : Nat) (0 : Nat) ((0 : Nat) + t.size))
      [some
          (Blk.arr (1 : Nat) ((0 : Nat) + t.size) fun j =>
            [AV.v (Value.int IntKind.u8 (bif decide (j < (0 : Nat)) then (0 : Int) else sbyte t (j - (0 : Nat))))])])) := by kernel_rfl
theorem runCh (t : ByteArray) : bodyE (P := Try.prog) (Γ := Γd) [] Lno false 8 [.tmp 2] (bodyOf Try.f27) [.hs 0 0 t.size] [.arr 1 t.size (bsF t)] =
  Tree.chk (Nat.blt (0 : Nat) t.size)
  (Tree.chk (roomOk (1 : Nat) ((0 : Nat) + t.size))
    (Tree.leaf
      (Ans.mk (AV.hs (1 : Nat) (0 : Nat) ((0 : Nat) + t.size))
        [some (Blk.arr (1 : Nat) t.size fun j => [AV.v (Value.int IntKind.u8 (sbyte t j))]),
          some
            (Blk.arr (1 : Nat) ((0 : Nat) + t.size) fun j =>
              [AV.v
                  (Value.int IntKind.u8
                    (bif decide (j < (0 : Nat)) then (0 : Int) else sbyte t ((0 : Nat) + (j - (0 : Nat)))))])]))) := by kernel_rfl
def BA.ok : BA → Prop
  | .nil => True
  | .sl t => small t
  | .hs t => small t ∧ 0 < t.size
theorem room {n : Nat} (h : n ≤ 2000000000) : roomOk 1 (0 + n) = true := by
  unfold roomOk
  exact decide_eq_true (by omega)
theorem room' {n : Nat} (h : n ≤ 2000000000) : roomOk 1 n = true := by
  unfold roomOk
  exact decide_eq_true (by omega)
theorem cut0 (t : ByteArray) (j : Nat) : (bif decide (j < (0 : Nat)) then (0 : Int) else sbyte t (j - (0 : Nat))) = sbyte t j := by
  rw [decide_eq_false (Nat.not_lt_zero _)]; rfl
theorem cut1 (t : ByteArray) (j : Nat) : (bif decide (j < (0 : Nat)) then (0 : Int) else sbyte t ((0 : Nat) + (j - (0 : Nat)))) = sbyte t j := by
  rw [decide_eq_false (Nat.not_lt_zero _), Nat.zero_add]; rfl
def cloneV : BA → AV
  | .nil => nilSlice
  | .sl t => .hs 0 0 t.size
  | .hs t => .hs 1 0 t.size
def cloneN : BA → List Blk
  | .nil => []
  | .sl t => [.arr 1 t.size (bsF t)]
  | .hs t => [.arr 1 t.size (bsF t)]
theorem ansClone : ∀ (x : BA), x.ok → Answers Try.prog Γd 27 [x.av] x.bl (cloneV x) (x.bl.map some) (cloneN x)
  | .nil, _ => answers (fn := Try.f27) (c := bodyOf Try.f27) (ntmps := 8) (results := [.tmp 2]) [] Lno false Try.func27 (by kernel_rfl) (by kernel_rfl) (by kernel_rfl) (by kernel_rfl) (by simp) rfl (noLoops (by kernel_rfl))
    (Meets.of runCn ⟨.refl _, trivial⟩)
  | .sl t, hp => answers (fn := Try.f27) (c := bodyOf Try.f27) (ntmps := 8) (results := [.tmp 2]) [] Lno false Try.func27 (by kernel_rfl) (by kernel_rfl) (by kernel_rfl) (by kernel_rfl) (by simp) rfl (noLoops (by kernel_rfl))
    (Meets.of (runCs t) ⟨room (by have : t.size ≤ 1000000000 := hp; omega), by
      simp only [Nat.zero_add, cut0]
      exact ⟨.refl _, .refl _, trivial⟩⟩)
  | .hs t, hp => answers (fn := Try.f27) (c := bodyOf Try.f27) (ntmps := 8) (results := [.tmp 2]) [] Lno false Try.func27 (by kernel_rfl) (by kernel_rfl) (by kernel_rfl) (by kernel_rfl) (by simp) rfl (noLoops (by kernel_rfl))
    (Meets.of (runCh t) ⟨by rw [Nat.blt_eq]; exact hp.2, room (by have : t.size ≤ 1000000000 := hp.1; omega), by
      simp only [Nat.zero_add, cut1]
      exact ⟨.refl _, .refl _, .refl _, trivial⟩⟩)
/-! ### a number's bytes: the loop -/
noncomputable def loopN : Code := loopOf (bodyOf Try.f34) 0
theorem roundN0 (n : Nat) (t : ByteArray) : roundE (P := Try.prog) (Γ := Γd) [] Lno false 0 0 loopN [1, 6] [(1, 5)] 30 [.v (.int .i64 (n : Int)), .hs 0 0 t.size] [some (.arr 1 t.size (bsF t))] =
  Tree.br (decide ((128 : Int) ≤ (↑n : Int)))
  (Tree.chk (roomOk (1 : Nat) (t.size + (1 : Nat)))
    (Tree.chk true
      (Tree.leaf
        (Out.mk AEx.normal
          [AV.v (Value.int IntKind.i64 ((↑n : Int).fdiv ((2 : Int) ^ min (Int.toNat (7 : Int)) (64 : Nat)))),
            AV.hs (0 : Nat) (0 : Nat) (t.size + (1 : Nat))]
          [some
              (Blk.arr (1 : Nat) (t.size + (1 : Nat)) fun j =>
                [AV.v
                    (Value.int IntKind.u8
                      (bif decide (j < t.size) then sbyte t ((0 : Nat) + j)
                      else
                        bif ((0 : Nat) + (j - t.size)).beq (0 : Nat) then
                          bitI BinOp.or IntKind.u8 (IntKind.u8.wrap (↑n : Int)) (128 : Int)
                        else (0 : Int)))])]))))
  (Tree.leaf
    (Out.mk (AEx.exit (0 : Nat)) [AV.v (Value.int IntKind.i64 (↑n : Int)), AV.hs (0 : Nat) (0 : Nat) t.size]
      [some (Blk.arr (1 : Nat) t.size fun j => [AV.v (Value.int IntKind.u8 (sbyte t j))])])) := by kernel_rfl
theorem roundN1 (n : Nat) (t b : ByteArray) : roundE (P := Try.prog) (Γ := Γd) [] Lno false 1 0 loopN [1, 6] [(1, 5)] 30 [.v (.int .i64 (n : Int)), .hs 1 0 t.size] [some (.arr 1 b.size (bsF b)), some (.arr 1 t.size (bsF t))] =
  Tree.br (decide ((128 : Int) ≤ (↑n : Int)))
  (Tree.chk (roomOk (1 : Nat) (t.size + (1 : Nat)))
    (Tree.chk true
      (Tree.leaf
        (Out.mk AEx.normal
          [AV.v (Value.int IntKind.i64 ((↑n : Int).fdiv ((2 : Int) ^ min (Int.toNat (7 : Int)) (64 : Nat)))),
            AV.hs (1 : Nat) (0 : Nat) (t.size + (1 : Nat))]
          [some (Blk.arr (1 : Nat) b.size fun j => [AV.v (Value.int IntKind.u8 (sbyte b j))]),
            some
              (Blk.arr (1 : Nat) (t.size + (1 : Nat)) fun j =>
                [AV.v
                    (Value.int IntKind.u8
                      (bif decide (j < t.size) then sbyte t ((0 : Nat) + j)
                      else
                        bif ((0 : Nat) + (j - t.size)).beq (0 : Nat) then
                          bitI BinOp.or IntKind.u8 (IntKind.u8.wrap (↑n : Int)) (128 : Int)
                        else (0 : Int)))])]))))
  (Tree.leaf
    (Out.mk (AEx.exit (0 : Nat)) [AV.v (Value.int IntKind.i64 (↑n : Int)), AV.hs (1 : Nat) (0 : Nat) t.size]
      [some (Blk.arr (1 : Nat) b.size fun j => [AV.v (Value.int IntKind.u8 (sbyte b j))]),
        some (Blk.arr (1 : Nat) t.size fun j => [AV.v (Value.int IntKind.u8 (sbyte t j))])])) := by kernel_rfl
def SN (a : BA) (n : Nat) (t : ByteArray) : List AV × Heap := ([.v (.int .i64 (n : Int)), .hs a.n 0 t.size], a.bl.map some ++ [some (.arr 1 t.size (bsF t))])
def preN (x : Nat × ByteArray) : Prop := x.1 ≤ 4611686018427387904 ∧ x.2.size + (hiB x.1).size ≤ 1000000100
def ON (a : BA) (n : Nat) (t : ByteArray) : Out := ⟨.exit 0, [.v (.int .i64 (loN n : Int)), .hs a.n 0 (t ++ hiB n).size], a.bl.map some ++ [some (.arr 1 (t ++ hiB n).size (bsF (t ++ hiB n)))]⟩
theorem stepN {n : Nat} {t : ByteArray} (hp : preN (n, t)) (h : 128 ≤ n) : ((n : Int).fdiv ((2 : Int) ^ min (Int.toNat (7 : Int)) (64 : Nat))) = ((n / 128 : Nat) : Int) ∧ (t ++ oneB (n % 128 + 128)).size = t.size + 1 ∧ t.size + 1 ≤ 1000000100 ∧
    preN (n / 128, t ++ oneB (n % 128 + 128)) ∧ (t ++ oneB (n % 128 + 128)) ++ hiB (n / 128) = t ++ hiB n ∧
    ∀ j, j < t.size + 1 → (bif decide (j < t.size) then sbyte t ((0 : Nat) + j) else bif ((0 : Nat) + (j - t.size)).beq (0 : Nat) then bitI BinOp.or IntKind.u8 (IntKind.u8.wrap (n : Int)) (128 : Int) else (0 : Int)) = sbyte (t ++ oneB (n % 128 + 128)) j := by
  have hge : ¬ n < 128 := by omega
  have e1 := hiB_ge hge
  have hp1 := hp.1
  have hp2 := hp.2
  simp only [e1, ByteArray.size_append, oneB_size] at hp2
  refine ⟨?_, by simp, by omega, ⟨?_, ?_⟩, ?_, fun j hj => ?_⟩
  · show (n : Int).fdiv 128 = _
    rw [Int.fdiv_eq_ediv_of_nonneg _ (by decide)]
    omega
  · show n / 128 ≤ _
    have : n / 128 ≤ n := Nat.div_le_self _ _
    simp only at hp1
    omega
  · simp only [ByteArray.size_append, oneB_size]; omega
  · rw [e1, ByteArray.append_assoc]
  · have hv : bitI BinOp.or IntKind.u8 (IntKind.u8.wrap (n : Int)) (128 : Int) = ((n % 128 + 128 : Nat) : Int) := by
      rw [wrapU8, or128 _ (by omega) (by omega)]
      omega
    rw [hv, push_eq (by omega) (by omega) hj, Int.toNat_natCast]
theorem loopN_ok (a : BA) : ∀ x : Nat × ByteArray, preN x → LoopOK Try.prog Γd a.bl.length 30 loopN (LSpec.at [1, 6] [(1, 5)] (SN a x.1 x.2) (ON a x.1 x.2)) := by
  refine loop_at (S := fun x : Nat × ByteArray => SN a x.1 x.2) (O := fun x => ON a x.1 x.2) (k := 0) (fun x => x.1) fun x hp => ⟨[], Lno, false, noLoops (by kernel_rfl), ?_⟩
  obtain ⟨n, t⟩ := x
  have fin : ¬ 128 ≤ n → hiB n = ⟨#[]⟩ ∧ loN n = n := fun h => ⟨hiB_lt (by omega), loN_lt (by omega)⟩
  have hd : (128 : Int) ≤ (n : Int) ↔ 128 ≤ n := by omega
  cases a with
  | hs b =>
    show (roundE (P := Try.prog) (Γ := Γd) [] Lno false 1 0 loopN [1, 6] [(1, 5)] 30 [.v (.int .i64 (n : Int)), .hs 1 0 t.size] [some (.arr 1 b.size (bsF b)), some (.arr 1 t.size (bsF t))]).sat _
    rw [roundN1]
    refine ⟨fun hc => ?_, fun hc => ?_⟩
    · have h := hd.1 (of_decide_eq_true hc)
      obtain ⟨s1, s2, s3, s4, s5, s6⟩ := stepN hp h
      refine ⟨room' (by omega), rfl, (n / 128, t ++ oneB (n % 128 + 128)), ?_, ?_, s4, ?_, ?_⟩
      · rw [s1]; exact ⟨.refl _, .of_eq (by rw [s2]; rfl), trivial⟩
      · exact ⟨.refl _, .arr s2.symm (fun j hj => by rw [s6 j hj]; rfl) (fun _ => rfl), trivial⟩
      · simp only [ON]; rw [show loN (n / 128) = loN n from (loN_ge (by omega)).symm, s5]
      · show n / 128 < n; omega
    · have h := mt hd.2 (of_decide_eq_false hc)
      obtain ⟨f1, f2⟩ := fin h
      refine ⟨rfl, ?_, ?_⟩
      · simp only [ON, f1, f2, append_empty]; exact LeL.refl _
      · simp only [ON, f1, append_empty]; exact LeH.refl _
  | nil =>
    show (roundE (P := Try.prog) (Γ := Γd) [] Lno false 0 0 loopN [1, 6] [(1, 5)] 30 [.v (.int .i64 (n : Int)), .hs 0 0 t.size] [some (.arr 1 t.size (bsF t))]).sat _
    rw [roundN0]
    refine ⟨fun hc => ?_, fun hc => ?_⟩
    · have h := hd.1 (of_decide_eq_true hc)
      obtain ⟨s1, s2, s3, s4, s5, s6⟩ := stepN hp h
      refine ⟨room' (by omega), rfl, (n / 128, t ++ oneB (n % 128 + 128)), ?_, ?_, s4, ?_, ?_⟩
      · rw [s1]; exact ⟨.refl _, .of_eq (by rw [s2]; rfl), trivial⟩
      · exact ⟨.arr s2.symm (fun j hj => by rw [s6 j hj]; rfl) (fun _ => rfl), trivial⟩
      · simp only [ON]; rw [show loN (n / 128) = loN n from (loN_ge (by omega)).symm, s5]
      · show n / 128 < n; omega
    · have h := mt hd.2 (of_decide_eq_false hc)
      obtain ⟨f1, f2⟩ := fin h
      refine ⟨rfl, ?_, ?_⟩
      · simp only [ON, f1, f2, append_empty]; exact LeL.refl _
      · simp only [ON, f1, append_empty]; exact LeH.refl _
  | sl b =>
    show (roundE (P := Try.prog) (Γ := Γd) [] Lno false 0 0 loopN [1, 6] [(1, 5)] 30 [.v (.int .i64 (n : Int)), .hs 0 0 t.size] [some (.arr 1 t.size (bsF t))]).sat _
    rw [roundN0]
    refine ⟨fun hc => ?_, fun hc => ?_⟩
    · have h := hd.1 (of_decide_eq_true hc)
      obtain ⟨s1, s2, s3, s4, s5, s6⟩ := stepN hp h
      refine ⟨room' (by omega), rfl, (n / 128, t ++ oneB (n % 128 + 128)), ?_, ?_, s4, ?_, ?_⟩
      · rw [s1]; exact ⟨.refl _, .of_eq (by rw [s2]; rfl), trivial⟩
      · exact ⟨.arr s2.symm (fun j hj => by rw [s6 j hj]; rfl) (fun _ => rfl), trivial⟩
      · simp only [ON]; rw [show loN (n / 128) = loN n from (loN_ge (by omega)).symm, s5]
      · show n / 128 < n; omega
    · have h := mt hd.2 (of_decide_eq_false hc)
      obtain ⟨f1, f2⟩ := fin h
      refine ⟨rfl, ?_, ?_⟩
      · simp only [ON, f1, f2, append_empty]; exact LeL.refl _
      · simp only [ON, f1, append_empty]; exact LeH.refl _
noncomputable def LN (a : BA) (n : Nat) (t : ByteArray) : Nat → LSpec := fun _ => LSpec.at [1, 6] [(1, 5)] (SN a n t) (ON a n t)
theorem runNn (n : Nat) (h : BA.nil.ok) : bodyE (P := Try.prog) (Γ := Γd) [CT.at 27 (ansClone .nil h)] (LN .nil n ⟨#[]⟩) false 30 [.tmp 4, .tmp 5] (bodyOf Try.f34) [.v (.slice none 0 0), .v (.int .i64 (n : Int))] [] =
  Tree.br (bif decide ((↑n : Int) < (0 : Int)) then true else decide ((4611686018427387904 : Int) < (↑n : Int)))
  (Tree.leaf
    (Ans.mk (AV.tup [AV.v (Value.slice none (0 : Nat) (0 : Nat)), AV.v (Value.int IntKind.i64 (10 : Int))]) []))
  (Tree.chk
    (cl (LeL [AV.v (Value.slice none (0 : Nat) (0 : Nat))] [AV.v (Value.slice none (0 : Nat) (0 : Nat))] ∧ LeH [] []))
    (Tree.chk
      (cl
        (LeL [AV.v (Value.int IntKind.i64 (↑n : Int)), AV.hs (0 : Nat) (0 : Nat) (0 : Nat)]
            [AV.v (Value.int IntKind.i64 (↑n : Int)), AV.hs (0 : Nat) (0 : Nat) (0 : Nat)] ∧
          LeH [some (Blk.arr (1 : Nat) (0 : Nat) fun x => [AV.v (Value.int IntKind.u8 (0 : Int))])]
            [some (Blk.arr (1 : Nat) (0 : Nat) fun j => [AV.v (Value.int IntKind.u8 (sbyte (ByteArray.mk #[]) j))])]))
      (Tree.chk (roomOk (1 : Nat) ((ByteArray.mk #[] ++ hiB n).size + (1 : Nat)))
        (Tree.leaf
          (Ans.mk
            (AV.tup
              [AV.hs (0 : Nat) (0 : Nat) ((ByteArray.mk #[] ++ hiB n).size + (1 : Nat)),
                AV.v (Value.int IntKind.i64 (0 : Int))])
            [some
                (Blk.arr (1 : Nat) ((ByteArray.mk #[] ++ hiB n).size + (1 : Nat)) fun j =>
                  [AV.v
                      (Value.int IntKind.u8
                        (bif decide (j < (ByteArray.mk #[] ++ hiB n).size) then
                          sbyte (ByteArray.mk #[] ++ hiB n) ((0 : Nat) + j)
                        else
                          bif ((0 : Nat) + (j - (ByteArray.mk #[] ++ hiB n).size)).beq (0 : Nat) then
                            IntKind.u8.wrap (↑(loN n) : Int)
                          else (0 : Int)))])]))))) := by kernel_rfl
theorem runNs (t : ByteArray) (n : Nat) (h : (BA.sl t).ok) : bodyE (P := Try.prog) (Γ := Γd) [CT.at 27 (ansClone (.sl t) h)] (LN (.sl t) n t) false 30 [.tmp 4, .tmp 5] (bodyOf Try.f34) [.sl 1 t.size (bsF t), .v (.int .i64 (n : Int))] [] =
  Tree.br (bif decide ((↑n : Int) < (0 : Int)) then true else decide ((4611686018427387904 : Int) < (↑n : Int)))
  (Tree.leaf
    (Ans.mk (AV.tup [AV.v (Value.slice none (0 : Nat) (0 : Nat)), AV.v (Value.int IntKind.i64 (10 : Int))]) []))
  (Tree.chk
    (cl
      (LeL [AV.sl (1 : Nat) t.size fun j => [AV.v (Value.int IntKind.u8 (sbyte t j))]]
          [AV.sl (1 : Nat) t.size fun j => [AV.v (Value.int IntKind.u8 (sbyte t j))]] ∧
        LeH [] []))
    (Tree.chk
      (cl
        (LeL [AV.v (Value.int IntKind.i64 (↑n : Int)), AV.hs (0 : Nat) (0 : Nat) t.size]
            [AV.v (Value.int IntKind.i64 (↑n : Int)), AV.hs (0 : Nat) (0 : Nat) t.size] ∧
          LeH [some (Blk.arr (1 : Nat) t.size fun j => [AV.v (Value.int IntKind.u8 (sbyte t j))])]
            [some (Blk.arr (1 : Nat) t.size fun j => [AV.v (Value.int IntKind.u8 (sbyte t j))])]))
      (Tree.chk (roomOk (1 : Nat) ((t ++ hiB n).size + (1 : Nat)))
        (Tree.leaf
          (Ans.mk
            (AV.tup [AV.hs (0 : Nat) (0 : Nat) ((t ++ hiB n).size + (1 : Nat)), AV.v (Value.int IntKind.i64 (0 : Int))])
            [some
                (Blk.arr (1 : Nat) ((t ++ hiB n).size + (1 : Nat)) fun j =>
                  [AV.v
                      (Value.int IntKind.u8
                        (bif decide (j < (t ++ hiB n).size) then sbyte (t ++ hiB n) ((0 : Nat) + j)
                        else
                          bif ((0 : Nat) + (j - (t ++ hiB n).size)).beq (0 : Nat) then IntKind.u8.wrap (↑(loN n) : Int)
                          else (0 : Int)))])]))))) := by kernel_rfl
theorem runNh (t : ByteArray) (n : Nat) (h : (BA.hs t).ok) : bodyE (P := Try.prog) (Γ := Γd) [CT.at 27 (ansClone (.hs t) h)] (LN (.hs t) n t) false 30 [.tmp 4, .tmp 5] (bodyOf Try.f34) [.hs 0 0 t.size, .v (.int .i64 (n : Int))] [.arr 1 t.size (bsF t)] =
  Tree.br (bif decide ((↑n : Int) < (0 : Int)) then true else decide ((4611686018427387904 : Int) < (↑n : Int)))
  (Tree.leaf
    (Ans.mk (AV.tup [AV.v (Value.slice none (0 : Nat) (0 : Nat)), AV.v (Value.int IntKind.i64 (10 : Int))])
      [some (Blk.arr (1 : Nat) t.size fun j => [AV.v (Value.int IntKind.u8 (sbyte t j))])]))
  (Tree.chk
    (cl
      (LeL [AV.hs (0 : Nat) (0 : Nat) t.size] [AV.hs (0 : Nat) (0 : Nat) t.size] ∧
        LeH [some (Blk.arr (1 : Nat) t.size fun j => [AV.v (Value.int IntKind.u8 (sbyte t j))])]
          [some (Blk.arr (1 : Nat) t.size fun j => [AV.v (Value.int IntKind.u8 (sbyte t j))])]))
    (Tree.chk
      (cl
        (LeL [AV.v (Value.int IntKind.i64 (↑n : Int)), AV.hs (1 : Nat) (0 : Nat) t.size]
            [AV.v (Value.int IntKind.i64 (↑n : Int)), AV.hs (1 : Nat) (0 : Nat) t.size] ∧
          LeH
            [some (Blk.arr (1 : Nat) t.size fun j => [AV.v (Value.int IntKind.u8 (sbyte t j))]),
              some (Blk.arr (1 : Nat) t.size fun j => [AV.v (Value.int IntKind.u8 (sbyte t j))])]
            [some (Blk.arr (1 : Nat) t.size fun j => [AV.v (Value.int IntKind.u8 (sbyte t j))]),
              some (Blk.arr (1 : Nat) t.size fun j => [AV.v (Value.int IntKind.u8 (sbyte t j))])]))
      (Tree.chk (roomOk (1 : Nat) ((t ++ hiB n).size + (1 : Nat)))
        (Tree.leaf
          (Ans.mk
            (AV.tup [AV.hs (1 : Nat) (0 : Nat) ((t ++ hiB n).size + (1 : Nat)), AV.v (Value.int IntKind.i64 (0 : Int))])
            [some (Blk.arr (1 : Nat) t.size fun j => [AV.v (Value.int IntKind.u8 (sbyte t j))]),
              some
                (Blk.arr (1 : Nat) ((t ++ hiB n).size + (1 : Nat)) fun j =>
                  [AV.v
                      (Value.int IntKind.u8
                        (bif decide (j < (t ++ hiB n).size) then sbyte (t ++ hiB n) ((0 : Nat) + j)
                        else
                          bif ((0 : Nat) + (j - (t ++ hiB n).size)).beq (0 : Nat) then IntKind.u8.wrap (↑(loN n) : Int)
                          else (0 : Int)))])]))))) := by kernel_rfl
theorem runXn (n : Int) (h : BA.nil.ok) : bodyE (P := Try.prog) (Γ := Γd) [CT.at 27 (ansClone .nil h)] Lno false 30 [.tmp 4, .tmp 5] (bodyOf Try.f34) [.v (.slice none 0 0), .v (.int .i64 n)] [] =
  Tree.br (bif decide (n < (0 : Int)) then true else decide ((4611686018427387904 : Int) < n))
  (Tree.leaf
    (Ans.mk (AV.tup [AV.v (Value.slice none (0 : Nat) (0 : Nat)), AV.v (Value.int IntKind.i64 (10 : Int))]) []))
  (Tree.chk
    (cl (LeL [AV.v (Value.slice none (0 : Nat) (0 : Nat))] [AV.v (Value.slice none (0 : Nat) (0 : Nat))] ∧ LeH [] []))
    Tree.fail) := by kernel_rfl
theorem runXs (t : ByteArray) (n : Int) (h : (BA.sl t).ok) : bodyE (P := Try.prog) (Γ := Γd) [CT.at 27 (ansClone (.sl t) h)] Lno false 30 [.tmp 4, .tmp 5] (bodyOf Try.f34) [.sl 1 t.size (bsF t), .v (.int .i64 n)] [] =
  Tree.br (bif decide (n < (0 : Int)) then true else decide ((4611686018427387904 : Int) < n))
  (Tree.leaf
    (Ans.mk (AV.tup [AV.v (Value.slice none (0 : Nat) (0 : Nat)), AV.v (Value.int IntKind.i64 (10 : Int))]) []))
  (Tree.chk
    (cl
      (LeL [AV.sl (1 : Nat) t.size fun j => [AV.v (Value.int IntKind.u8 (sbyte t j))]]
          [AV.sl (1 : Nat) t.size fun j => [AV.v (Value.int IntKind.u8 (sbyte t j))]] ∧
        LeH [] []))
    Tree.fail) := by kernel_rfl
theorem runXh (t : ByteArray) (n : Int) (h : (BA.hs t).ok) : bodyE (P := Try.prog) (Γ := Γd) [CT.at 27 (ansClone (.hs t) h)] Lno false 30 [.tmp 4, .tmp 5] (bodyOf Try.f34) [.hs 0 0 t.size, .v (.int .i64 n)] [.arr 1 t.size (bsF t)] =
  Tree.br (bif decide (n < (0 : Int)) then true else decide ((4611686018427387904 : Int) < n))
  (Tree.leaf
    (Ans.mk (AV.tup [AV.v (Value.slice none (0 : Nat) (0 : Nat)), AV.v (Value.int IntKind.i64 (10 : Int))])
      [some (Blk.arr (1 : Nat) t.size fun j => [AV.v (Value.int IntKind.u8 (sbyte t j))])]))
  (Tree.chk
    (cl
      (LeL [AV.hs (0 : Nat) (0 : Nat) t.size] [AV.hs (0 : Nat) (0 : Nat) t.size] ∧
        LeH [some (Blk.arr (1 : Nat) t.size fun j => [AV.v (Value.int IntKind.u8 (sbyte t j))])]
          [some (Blk.arr (1 : Nat) t.size fun j => [AV.v (Value.int IntKind.u8 (sbyte t j))])]))
    Tree.fail) := by kernel_rfl
theorem BA.ok_small : ∀ {a : BA}, a.ok → small a.t
  | .nil, _ => by unfold small BA.t; decide
  | .sl _, h => h
  | .hs _, h => h.1
theorem numTail (t : ByteArray) (n : Nat) : (t ++ hiB n).size + 1 = (t ++ numB n).size ∧ ∀ j, j < (t ++ hiB n).size + 1 →
    (bif decide (j < (t ++ hiB n).size) then sbyte (t ++ hiB n) ((0 : Nat) + j) else bif ((0 : Nat) + (j - (t ++ hiB n).size)).beq (0 : Nat) then IntKind.u8.wrap (loN n : Int) else (0 : Int)) = sbyte (t ++ numB n) j := by
  have hl := loN_small n
  refine ⟨by simp [numB]; omega, fun j hj => ?_⟩
  have e : IntKind.u8.wrap (loN n : Int) = ((loN n : Nat) : Int) := by rw [wrapU8]; omega
  rw [e, push_eq (by omega) (by omega) hj, Int.toNat_natCast, numB, ByteArray.append_assoc]
theorem pre_of {t : ByteArray} {n : Nat} (h : small t) (hn : n ≤ 4611686018427387904) : preN (n, t) := by
  have := numB_size hn
  unfold numB at this
  simp only [ByteArray.size_append, oneB_size] at this
  unfold small at h
  refine ⟨hn, ?_⟩
  show t.size + (hiB n).size ≤ _
  omega
theorem notBad {n : Nat} (hn : n ≤ 4611686018427387904) : (bif decide ((n : Int) < (0 : Int)) then true else decide ((4611686018427387904 : Int) < (n : Int))) = false := by
  rw [decide_eq_false (by omega), decide_eq_false (by omega)]; rfl
theorem isBad {n : Int} (hn : n < 0 ∨ 4611686018427387904 < n) : (bif decide (n < (0 : Int)) then true else decide ((4611686018427387904 : Int) < n)) = true := by
  by_cases h : n < 0
  · rw [decide_eq_true h]; rfl
  · rw [decide_eq_false h, decide_eq_true (by omega)]; rfl
theorem roomN {t : ByteArray} {n : Nat} (h : small t) (hn : n ≤ 4611686018427387904) : roomOk 1 ((t ++ hiB n).size + 1) = true := by
  have := (pre_of h hn).2
  simp only at this
  exact room' (by simp only [ByteArray.size_append]; omega)
theorem ansNum : ∀ (a : BA) (n : Nat), a.ok → n ≤ 4611686018427387904 → Answers Try.prog Γd 34 [a.av, .v (.int .i64 (n : Int))] a.bl (.tup [.hs a.n 0 (a.t ++ numB n).size, .v (.int .i64 0)]) (a.bl.map some) [.arr 1 (a.t ++ numB n).size (bsF (a.t ++ numB n))]
  | .nil, n, h, hn => answers (fn := Try.f34) (c := bodyOf Try.f34) (ntmps := 30) (results := [.tmp 4, .tmp 5]) [CT.at 27 (ansClone .nil h)] (LN .nil n ⟨#[]⟩) false Try.func34 (by kernel_rfl) (by kernel_rfl) (by kernel_rfl) (by kernel_rfl) (by simp) rfl
    (oneLoop (b := loopN) (by kernel_rfl) (loopN_ok .nil (n, ⟨#[]⟩) (pre_of (BA.ok_small h) hn)))
    (Meets.of (runNn n h) ⟨fun hc => by rw [notBad hn] at hc; simp at hc, fun _ => ⟨cl_iff.2 ⟨LeL.refl _, trivial⟩, cl_iff.2 ⟨LeL.refl _, .arr rfl (fun j hj => absurd hj (Nat.not_lt_zero _)) (fun _ => rfl), trivial⟩, roomN (BA.ok_small h) hn, by
      obtain ⟨e1, e2⟩ := numTail ⟨#[]⟩ n
      exact ⟨.of_eq (by rw [e1]; rfl), .arr e1 (fun j hj => by rw [e2 j hj]; rfl) (fun _ => rfl), trivial⟩⟩⟩)
  | .sl t, n, h, hn => answers (fn := Try.f34) (c := bodyOf Try.f34) (ntmps := 30) (results := [.tmp 4, .tmp 5]) [CT.at 27 (ansClone (.sl t) h)] (LN (.sl t) n t) false Try.func34 (by kernel_rfl) (by kernel_rfl) (by kernel_rfl) (by kernel_rfl) (by simp) rfl
    (oneLoop (b := loopN) (by kernel_rfl) (loopN_ok (.sl t) (n, t) (pre_of (BA.ok_small h) hn)))
    (Meets.of (runNs t n h) ⟨fun hc => by rw [notBad hn] at hc; simp at hc, fun _ => ⟨cl_iff.2 ⟨LeL.refl _, LeH.refl _⟩, cl_iff.2 ⟨LeL.refl _, LeH.refl _⟩, roomN (BA.ok_small h) hn, by
      obtain ⟨e1, e2⟩ := numTail t n
      exact ⟨.of_eq (by rw [e1]; rfl), .arr e1 (fun j hj => by rw [e2 j hj]; rfl) (fun _ => rfl), trivial⟩⟩⟩)
  | .hs t, n, h, hn => answers (fn := Try.f34) (c := bodyOf Try.f34) (ntmps := 30) (results := [.tmp 4, .tmp 5]) [CT.at 27 (ansClone (.hs t) h)] (LN (.hs t) n t) false Try.func34 (by kernel_rfl) (by kernel_rfl) (by kernel_rfl) (by kernel_rfl) (by simp) rfl
    (oneLoop (b := loopN) (by kernel_rfl) (loopN_ok (.hs t) (n, t) (pre_of (BA.ok_small h) hn)))
    (Meets.of (runNh t n h) ⟨fun hc => by rw [notBad hn] at hc; simp at hc, fun _ => ⟨cl_iff.2 ⟨LeL.refl _, LeH.refl _⟩, cl_iff.2 ⟨LeL.refl _, LeH.refl _⟩, roomN (BA.ok_small h) hn, by
      obtain ⟨e1, e2⟩ := numTail t n
      exact ⟨.of_eq (by rw [e1]; rfl), .refl _, .arr e1 (fun j hj => by rw [e2 j hj]; rfl) (fun _ => rfl), trivial⟩⟩⟩)
theorem ansBad : ∀ (a : BA) (n : Int), a.ok → n < 0 ∨ 4611686018427387904 < n → Answers Try.prog Γd 34 [a.av, .v (.int .i64 n)] a.bl (.tup [.v (.slice none 0 0), .v (.int .i64 10)]) (a.bl.map some) []
  | .nil, n, h, hn => answers (fn := Try.f34) (c := bodyOf Try.f34) (ntmps := 30) (results := [.tmp 4, .tmp 5]) [CT.at 27 (ansClone .nil h)] Lno false Try.func34 (by kernel_rfl) (by kernel_rfl) (by kernel_rfl) (by kernel_rfl) (by simp) rfl
    (fun _ _ _ => fail_ok) (Meets.of (runXn n h) ⟨fun _ => ⟨.refl _, trivial⟩, fun hc => by rw [isBad hn] at hc; simp at hc⟩)
  | .sl t, n, h, hn => answers (fn := Try.f34) (c := bodyOf Try.f34) (ntmps := 30) (results := [.tmp 4, .tmp 5]) [CT.at 27 (ansClone (.sl t) h)] Lno false Try.func34 (by kernel_rfl) (by kernel_rfl) (by kernel_rfl) (by kernel_rfl) (by simp) rfl
    (fun _ _ _ => fail_ok) (Meets.of (runXs t n h) ⟨fun _ => ⟨.refl _, trivial⟩, fun hc => by rw [isBad hn] at hc; simp at hc⟩)
  | .hs t, n, h, hn => answers (fn := Try.f34) (c := bodyOf Try.f34) (ntmps := 30) (results := [.tmp 4, .tmp 5]) [CT.at 27 (ansClone (.hs t) h)] Lno false Try.func34 (by kernel_rfl) (by kernel_rfl) (by kernel_rfl) (by kernel_rfl) (by simp) rfl
    (fun _ _ _ => fail_ok) (Meets.of (runXh t n h) ⟨fun _ => ⟨.refl _, .refl _, trivial⟩, fun hc => by rw [isBad hn] at hc; simp at hc⟩)
end Go.Eng.Ce

/- wire: the bytes of a number: what the document answers. -/
namespace Go.Eng.Ce
open Go Go.Eng Go.Proofs
set_option linter.unusedSimpArgs false
set_option linter.unusedVariables false
noncomputable def loopR : Code := loopOf (bodyOf Try.f35) 0
theorem roundR (n : Nat) (t : ByteArray) : roundE (P := Try.prog) (Γ := Γd) [] Lno false 0 0 loopR [0, 4] [] 29 [.v (.int .i64 (n : Int)), .v (.string t)] [] =
  Tree.br (decide ((127 : Int) < (↑n : Int)))
  (Tree.chk true
    (Tree.chk
      (allBytes (1 : Nat) fun j =>
        [AV.v
            (Value.int IntKind.u8
              (bif ((0 : Nat) + j).beq (0 : Nat) then
                IntKind.u8.wrap (IntKind.i64.wrap ((↑n : Int).tmod (128 : Int) + (128 : Int)))
              else (0 : Int)))])
      (Tree.chk (decide (t.size + (1 : Nat) ≤ (9223372036854775807 : Nat)))
        (Tree.chk true
          (Tree.leaf
            (Out.mk AEx.normal
              [AV.v (Value.int IntKind.i64 (IntKind.i64.wrap ((↑n : Int).tdiv (128 : Int)))),
                AV.v
                  (Value.string
                    (t ++
                      textOf (1 : Nat) fun j =>
                        [AV.v
                            (Value.int IntKind.u8
                              (bif ((0 : Nat) + j).beq (0 : Nat) then
                                IntKind.u8.wrap (IntKind.i64.wrap ((↑n : Int).tmod (128 : Int) + (128 : Int)))
                              else (0 : Int)))]))]
              []))))))
  (Tree.leaf (Out.mk (AEx.exit (0 : Nat)) [AV.v (Value.int IntKind.i64 (↑n : Int)), AV.v (Value.string t)] [])) := by kernel_rfl
def SR (n : Nat) (t : ByteArray) : List AV × Heap := ([.v (.int .i64 (n : Int)), .v (.string t)], [])
def OR (n : Nat) (t : ByteArray) : Out := ⟨.exit 0, [.v (.int .i64 (loN n : Int)), .v (.string (t ++ hiB n))], []⟩
theorem digitR (n : Nat) : IntKind.u8.wrap (IntKind.i64.wrap ((n : Int).tmod (128 : Int) + (128 : Int))) = ((n % 128 + 128 : Nat) : Int) := by
  rw [show (128 : Int) = ((128 : Nat) : Int) from rfl, tmod_nat, wrap64E, wrapU8]
  omega
theorem loopR_ok : ∀ x : Nat × ByteArray, preN x → LoopOK Try.prog Γd 0 29 loopR (LSpec.at [0, 4] [] (SR x.1 x.2) (OR x.1 x.2)) := by
  refine loop_at (S := fun x : Nat × ByteArray => SR x.1 x.2) (O := fun x => OR x.1 x.2) (k := 0) (fun x => x.1) fun x hp => ⟨[], Lno, false, noLoops (by kernel_rfl), ?_⟩
  obtain ⟨n, t⟩ := x
  show (roundE (P := Try.prog) (Γ := Γd) [] Lno false 0 0 loopR [0, 4] [] 29 [.v (.int .i64 (n : Int)), .v (.string t)] []).sat _
  rw [roundR]
  have hp1 : n ≤ 4611686018427387904 := hp.1
  have hp2 : t.size + (hiB n).size ≤ 1000000100 := hp.2
  refine ⟨fun hc => ?_, fun hc => ?_⟩
  · have h : (127 : Int) < (n : Int) := of_decide_eq_true hc
    have hge : ¬ n < 128 := by omega
    have e1 := hiB_ge hge
    rw [e1] at hp2
    simp only [ByteArray.size_append, oneB_size] at hp2
    have e2 : IntKind.i64.wrap ((n : Int).tdiv (128 : Int)) = ((n / 128 : Nat) : Int) := by
      rw [show (128 : Int) = ((128 : Nat) : Int) from rfl, tdiv_nat, wrap64E]
      omega
    refine ⟨rfl, rfl, decide_eq_true (by omega), rfl, (n / 128, t ++ oneB (n % 128 + 128)), ?_, trivial, ⟨?_, ?_⟩, ?_, ?_⟩
    · simp only [textOf_one, digitR, Int.toNat_natCast, e2]
      exact ⟨.refl _, .refl _, trivial⟩
    · show n / 128 ≤ _; omega
    · show (t ++ oneB (n % 128 + 128)).size + (hiB (n / 128)).size ≤ _
      simp only [ByteArray.size_append, oneB_size]; omega
    · simp only [OR]; rw [show loN (n / 128) = loN n from (loN_ge hge).symm, e1, ByteArray.append_assoc]
    · show n / 128 < n; omega
  · have h : ¬ (127 : Int) < (n : Int) := of_decide_eq_false hc
    refine ⟨rfl, ?_, trivial⟩
    simp only [OR, hiB_lt (show n < 128 by omega), loN_lt (show n < 128 by omega), append_empty]
    exact LeL.refl _
/-- may a number be written? -/
def okN (n : Int) : Bool := decide (0 ≤ n) && decide (n ≤ 4611686018427387904)
def capN (n : Int) : Nat := min n.toNat 4611686018427387904
theorem capN_nat {k : Nat} (h : k ≤ 4611686018427387904) : capN (k : Int) = k := by
  unfold capN
  rw [Int.toNat_natCast]
  exact Nat.min_eq_left h
noncomputable def LR : List KC → Nat → LSpec
  | [.i n] => fun _ => LSpec.at [0, 4] [] (SR (capN n) ⟨#[]⟩) (OR (capN n) ⟨#[]⟩)
  | _ => Lno
noncomputable def gR : List KC → AV
  | [.i n] => .tup [.v (.string (bif okN n then numB n.toNat else ⟨#[]⟩)), .sb (okN n)]
  | _ => .any
theorem runR (n : Int) : bodyE (P := Try.prog) (Γ := Γd) [] (LR [.i n]) false 29 [.tmp 2, .tmp 3] (bodyOf Try.f35) [.v (.int .i64 n)] [] =
  Tree.br (bif decide (n < (0 : Int)) then true else decide ((4611686018427387904 : Int) < n))
  (Tree.leaf (Ans.mk (AV.tup [AV.v (Value.string (ByteArray.mk #[])), AV.v (Value.bool false)]) []))
  (Tree.chk
    (cl
      (LeL [AV.v (Value.int IntKind.i64 n), AV.v (Value.string (ByteArray.mk #[]))]
          [AV.v (Value.int IntKind.i64 (↑(capN n) : Int)), AV.v (Value.string (ByteArray.mk #[]))] ∧
        LeH [] []))
    (Tree.chk
      (allBytes (1 : Nat) fun j =>
        [AV.v
            (Value.int IntKind.u8
              (bif ((0 : Nat) + j).beq (0 : Nat) then IntKind.u8.wrap (↑(loN (capN n)) : Int) else (0 : Int)))])
      (Tree.chk (decide ((ByteArray.mk #[] ++ hiB (capN n)).size + (1 : Nat) ≤ (9223372036854775807 : Nat)))
        (Tree.leaf
          (Ans.mk
            (AV.tup
              [AV.v
                  (Value.string
                    (ByteArray.mk #[] ++ hiB (capN n) ++
                      textOf (1 : Nat) fun j =>
                        [AV.v
                            (Value.int IntKind.u8
                              (bif ((0 : Nat) + j).beq (0 : Nat) then IntKind.u8.wrap (↑(loN (capN n)) : Int)
                              else (0 : Int)))])),
                AV.v (Value.bool true)])
            []))))) := by kernel_rfl
theorem badN (n : Int) : (bif decide (n < (0 : Int)) then true else decide ((4611686018427387904 : Int) < n)) = !okN n := by
  unfold okN
  by_cases h : n < 0
  · rw [decide_eq_true h, decide_eq_false (show ¬ 0 ≤ n by omega)]; rfl
  · rw [decide_eq_false h, decide_eq_true (show 0 ≤ n by omega)]
    by_cases h2 : 4611686018427387904 < n
    · rw [decide_eq_true h2, decide_eq_false (show ¬ n ≤ 4611686018427387904 by omega)]; rfl
    · rw [decide_eq_false h2, decide_eq_true (show n ≤ 4611686018427387904 by omega)]; rfl
theorem okN_nat {n : Int} (h : okN n = true) : ∃ k : Nat, n = k ∧ k ≤ 4611686018427387904 := by
  unfold okN at h
  simp only [Bool.and_eq_true, decide_eq_true_eq] at h
  exact ⟨n.toNat, by omega, by omega⟩
theorem small_nil : small ⟨#[]⟩ := by unfold small; decide
theorem givesR (n : Int) : Gives (bodyE (P := Try.prog) (Γ := Γd) [] (LR [.i n]) false 29 [.tmp 2, .tmp 3] (bodyOf Try.f35) [.v (.int .i64 n)] []) (.tup [.v (.string (bif okN n then numB n.toNat else ⟨#[]⟩)), .sb (okN n)]) := by
  refine Gives.of (runR n) ?_
  rw [badN]
  cases hok : okN n with
  | false => exact ⟨fun _ => ⟨le_tup ⟨.refl _, .bs _, trivial⟩, trivial⟩, fun hc => by simp at hc⟩
  | true =>
    obtain ⟨k, rfl, hk⟩ := okN_nat hok
    have hl := loN_small k
    have hp : ((⟨#[]⟩ : ByteArray).size) + (hiB k).size ≤ 1000000100 := (pre_of small_nil hk).2
    have e : IntKind.u8.wrap (loN k : Int) = ((loN k : Nat) : Int) := by rw [wrapU8]; omega
    refine ⟨fun hc => by simp at hc, fun _ => ⟨cl_iff.2 ⟨by rw [capN_nat hk]; exact LeL.refl _, trivial⟩, rfl, decide_eq_true (by rw [capN_nat hk]; simp only [ByteArray.size_append] at *; omega), ?_, trivial⟩⟩
    simp only [capN_nat hk, Int.toNat_natCast, textOf_one, e, empty_append]
    exact le_tup ⟨.refl _, .bs _, trivial⟩
theorem fit1c {c : Cel} {l : List KC} (h : kFit [c] l = true) : ∃ x, l = [x] ∧ kcFit c x = true := by
  match l, h with
  | [x], h => simp only [kFit, Bool.and_true] at h; exact ⟨x, rfl, h⟩
  | [], h => simp [kFit] at h
  | _ :: _ :: _, h => simp [kFit] at h
noncomputable def Z.c35 : CT Try.prog Γd := CT.funL 35 Try.f35 (bodyOf Try.f35) [] LR false 29 [.tmp 2, .tmp 3] [.c (.int .i64)] (fun l => match l with | [.i n] => true | _ => false) gR Try.func35 (by kernel_rfl) (by kernel_rfl) (by kernel_rfl) (by kernel_rfl) (by decide)
  (fun l h _ => by
    obtain ⟨x, rfl, hx⟩ := fit1c h
    cases x <;> simp [kcFit] at hx
    rename_i n _
    exact oneLoop (b := loopR) (by kernel_rfl) (loopR_ok (capN n, ⟨#[]⟩) (pre_of small_nil (Nat.min_le_right _ _))))
  (fun l h _ => by
    obtain ⟨x, rfl, hx⟩ := fit1c h
    cases x <;> simp [kcFit] at hx
    exact givesR _)
end Go.Eng.Ce

/- wire: a text's bytes, the bytes of many numbers. -/
namespace Go.Eng.Ce
open Go Go.Eng Go.Proofs
set_option linter.unusedSimpArgs false
set_option linter.unusedVariables false
/-- numbers as an argument -/
inductive NA where
  | nil
  | sl (m : Nat) (g : Nat → Int)
  | hs (m : Nat) (g : Nat → Int)
def NA.m : NA → Nat
  | .nil => 0
  | .sl m _ => m
  | .hs m _ => m
def NA.g : NA → Nat → Int
  | .nil => fun _ => 0
  | .sl _ g => g
  | .hs _ g => g
def i64F (g : Nat → Int) : Nat → List AV := fun j => [.v (.int .i64 (g j))]
def NA.av : NA → AV
  | .nil => .v (.slice none 0 0)
  | .sl m g => .sl 1 m (i64F g)
  | .hs m _ => .hs 0 0 m
def NA.bl : NA → List Blk
  | .hs m g => [.arr 1 m (i64F g)]
  | _ => []
def NA.k : NA → Nat
  | .hs _ _ => 1
  | _ => 0
/-- the bytes of the first numbers -/
def catN (g : Nat → Int) : Nat → ByteArray
  | 0 => ⟨#[]⟩
  | i + 1 => catN g i ++ numB (g i).toNat
def outV (k : Nat) (g : Nat → Int) : Nat → AV
  | 0 => .v (.slice none 0 0)
  | i + 1 => .hs k 0 (catN g (i + 1)).size
def outB (g : Nat → Int) : Nat → Heap
  | 0 => []
  | i + 1 => [some (.arr 1 (catN g (i + 1)).size (bsF (catN g (i + 1))))]
noncomputable def loopM : Code := loopOf (bodyOf Try.f24) 0
def SM (a : NA) (i : Nat) : List AV × Heap := ([.any, .any, outV a.k a.g i, a.av, .v (.int .i64 (a.m : Int)), .v (.int .i64 (i : Int))], a.bl.map some ++ outB a.g i)
def OMg (a : NA) : Out := ⟨.exit 0, [.any, .any, outV a.k a.g a.m, .any, .any, .any], a.bl.map some ++ outB a.g a.m⟩
def OMb (a : NA) : Out := ⟨.ret, [.v (.slice none 0 0), .v (.int .i64 10), .any, .any, .any, .any], a.bl.map some⟩
theorem catN_small {g : Nat → Int} : ∀ {i : Nat}, (∀ j, j < i → okN (g j) = true) → (catN g i).size ≤ 9 * i ∧ (0 < i → 0 < (catN g i).size)
  | 0, _ => ⟨Nat.zero_le _, fun h => by omega⟩
  | i + 1, h => by
    obtain ⟨h1, _⟩ := catN_small (g := g) (i := i) fun j hj => h j (by omega)
    obtain ⟨k, hk, hk2⟩ := okN_nat (h i (by omega))
    have := numB_size hk2
    simp only [catN, ByteArray.size_append, hk, Int.toNat_natCast]
    omega
theorem small_cat {g : Nat → Int} {i : Nat} (h : ∀ j, j < i → okN (g j) = true) (hi : i ≤ 100000) : small (catN g i) := by
  have := (catN_small h).1
  unfold small; omega
theorem roundMn  : roundE (P := Try.prog) (Γ := Γd) [] Lno false 0 0 loopM [2, 3, 4, 8, 9, 10] [] 25 [.any, .any, .v (.slice none 0 0), .v (.slice none 0 0), .v (.int .i64 (0 : Nat)), .v (.int .i64 (0 : Nat))] [] =
  Tree.br false Tree.fail
  (Tree.leaf
    (Out.mk (AEx.exit (0 : Nat))
      [AV.any, AV.any, AV.v (Value.slice none (0 : Nat) (0 : Nat)), AV.v (Value.slice none (0 : Nat) (0 : Nat)),
        AV.v (Value.int IntKind.i64 (↑(0 : Nat) : Int)), AV.v (Value.int IntKind.i64 (↑(0 : Nat) : Int))]
      [])) := by kernel_rfl
theorem roundMs0 (m : Nat) (g : Nat → Int) (n : Nat) (h : n ≤ 4611686018427387904) : roundE (P := Try.prog) (Γ := Γd) [CT.at 34 (ansNum .nil n trivial h)] Lno false 0 0 loopM [2, 3, 4, 8, 9, 10] [] 25 [.any, .any, .v (.slice none 0 0), .sl 1 m (i64F g), .v (.int .i64 (m : Int)), .v (.int .i64 (0 : Nat))] [] =
  Tree.br (decide ((↑(0 : Nat) : Int) < (↑m : Int)))
  (Tree.chk (true && decide ((↑(0 : Nat) : Int) < (↑m : Int)))
    (Tree.chk
      (cl
        (LeL [AV.v (Value.slice none (0 : Nat) (0 : Nat)), AV.v (Value.int IntKind.i64 (g (↑(0 : Nat) : Int).toNat))]
            [AV.v (Value.slice none (0 : Nat) (0 : Nat)), AV.v (Value.int IntKind.i64 (↑n : Int))] ∧
          LeH [] []))
      (Tree.br false
        (Tree.leaf
          (Out.mk AEx.ret
            [AV.v (Value.slice none (0 : Nat) (0 : Nat)), AV.v (Value.int IntKind.i64 (0 : Int)),
              AV.hs (0 : Nat) (0 : Nat) (BA.nil.t ++ numB n).size,
              AV.sl (1 : Nat) m fun j => [AV.v (Value.int IntKind.i64 (g j))], AV.v (Value.int IntKind.i64 (↑m : Int)),
              AV.v (Value.int IntKind.i64 (↑(0 : Nat) : Int))]
            [some
                (Blk.arr (1 : Nat) (BA.nil.t ++ numB n).size fun j =>
                  [AV.v (Value.int IntKind.u8 (sbyte (BA.nil.t ++ numB n) j))])]))
        (Tree.leaf
          (Out.mk AEx.normal
            [AV.any, AV.any, AV.hs (0 : Nat) (0 : Nat) (BA.nil.t ++ numB n).size,
              AV.sl (1 : Nat) m fun j => [AV.v (Value.int IntKind.i64 (g j))], AV.v (Value.int IntKind.i64 (↑m : Int)),
              AV.v (Value.int IntKind.i64 (IntKind.i64.wrap ((↑(0 : Nat) : Int) + (1 : Int))))]
            [some
                (Blk.arr (1 : Nat) (BA.nil.t ++ numB n).size fun j =>
                  [AV.v (Value.int IntKind.u8 (sbyte (BA.nil.t ++ numB n) j))])])))))
  (Tree.leaf
    (Out.mk (AEx.exit (0 : Nat))
      [AV.any, AV.any, AV.v (Value.slice none (0 : Nat) (0 : Nat)),
        AV.sl (1 : Nat) m fun j => [AV.v (Value.int IntKind.i64 (g j))], AV.v (Value.int IntKind.i64 (↑m : Int)),
        AV.v (Value.int IntKind.i64 (↑(0 : Nat) : Int))]
      [])) := by kernel_rfl
theorem roundMs1 (m : Nat) (g : Nat → Int) (n i : Nat) (t : ByteArray) (ht : (BA.hs t).ok) (h : n ≤ 4611686018427387904) : roundE (P := Try.prog) (Γ := Γd) [CT.at 34 (ansNum (.hs t) n ht h)] Lno false 0 0 loopM [2, 3, 4, 8, 9, 10] [] 25 [.any, .any, .hs 0 0 t.size, .sl 1 m (i64F g), .v (.int .i64 (m : Int)), .v (.int .i64 (i : Int))] [some (.arr 1 t.size (bsF t))] =
  Tree.br (decide ((↑i : Int) < (↑m : Int)))
  (Tree.chk (decide ((0 : Int) ≤ (↑i : Int)) && decide ((↑i : Int) < (↑m : Int)))
    (Tree.chk
      (cl
        (LeL [AV.hs (0 : Nat) (0 : Nat) t.size, AV.v (Value.int IntKind.i64 (g (↑i : Int).toNat))]
            [AV.hs (0 : Nat) (0 : Nat) t.size, AV.v (Value.int IntKind.i64 (↑n : Int))] ∧
          LeH [some (Blk.arr (1 : Nat) t.size fun j => [AV.v (Value.int IntKind.u8 (sbyte t j))])]
            [some (Blk.arr (1 : Nat) t.size fun j => [AV.v (Value.int IntKind.u8 (sbyte t j))])]))
      (Tree.br false
        (Tree.leaf
          (Out.mk AEx.ret
            [AV.v (Value.slice none (0 : Nat) (0 : Nat)), AV.v (Value.int IntKind.i64 (0 : Int)),
              AV.hs (0 : Nat) (0 : Nat) ((BA.hs t).t ++ numB n).size,
              AV.sl (1 : Nat) m fun j => [AV.v (Value.int IntKind.i64 (g j))], AV.v (Value.int IntKind.i64 (↑m : Int)),
              AV.v (Value.int IntKind.i64 (↑i : Int))]
            [some
                (Blk.arr (1 : Nat) ((BA.hs t).t ++ numB n).size fun j =>
                  [AV.v (Value.int IntKind.u8 (sbyte ((BA.hs t).t ++ numB n) j))])]))
        (Tree.leaf
          (Out.mk AEx.normal
            [AV.any, AV.any, AV.hs (0 : Nat) (0 : Nat) ((BA.hs t).t ++ numB n).size,
              AV.sl (1 : Nat) m fun j => [AV.v (Value.int IntKind.i64 (g j))], AV.v (Value.int IntKind.i64 (↑m : Int)),
              AV.v (Value.int IntKind.i64 (IntKind.i64.wrap ((↑i : Int) + (1 : Int))))]
            [some
                (Blk.arr (1 : Nat) ((BA.hs t).t ++ numB n).size fun j =>
                  [AV.v (Value.int IntKind.u8 (sbyte ((BA.hs t).t ++ numB n) j))])])))))
  (Tree.leaf
    (Out.mk (AEx.exit (0 : Nat))
      [AV.any, AV.any, AV.hs (0 : Nat) (0 : Nat) t.size,
        AV.sl (1 : Nat) m fun j => [AV.v (Value.int IntKind.i64 (g j))], AV.v (Value.int IntKind.i64 (↑m : Int)),
        AV.v (Value.int IntKind.i64 (↑i : Int))]
      [some (Blk.arr (1 : Nat) t.size fun j => [AV.v (Value.int IntKind.u8 (sbyte t j))])])) := by kernel_rfl
theorem roundMh0 (m : Nat) (g : Nat → Int) (n : Nat) (h : n ≤ 4611686018427387904) : roundE (P := Try.prog) (Γ := Γd) [CT.at 34 (ansNum .nil n trivial h)] Lno false 1 0 loopM [2, 3, 4, 8, 9, 10] [] 25 [.any, .any, .v (.slice none 0 0), .hs 0 0 m, .v (.int .i64 (m : Int)), .v (.int .i64 (0 : Nat))] [some (.arr 1 m (i64F g))] =
  Tree.br (decide ((↑(0 : Nat) : Int) < (↑m : Int)))
  (Tree.chk (true && decide ((↑(0 : Nat) : Int) < (↑m : Int)))
    (Tree.chk
      (cl
        (LeL
            [AV.v (Value.slice none (0 : Nat) (0 : Nat)),
              AV.v (Value.int IntKind.i64 (g ((0 : Nat) + (↑(0 : Nat) : Int).toNat)))]
            [AV.v (Value.slice none (0 : Nat) (0 : Nat)), AV.v (Value.int IntKind.i64 (↑n : Int))] ∧
          LeH [] []))
      (Tree.br false
        (Tree.leaf
          (Out.mk AEx.ret
            [AV.v (Value.slice none (0 : Nat) (0 : Nat)), AV.v (Value.int IntKind.i64 (0 : Int)),
              AV.hs (1 : Nat) (0 : Nat) (BA.nil.t ++ numB n).size, AV.hs (0 : Nat) (0 : Nat) m,
              AV.v (Value.int IntKind.i64 (↑m : Int)), AV.v (Value.int IntKind.i64 (↑(0 : Nat) : Int))]
            [some (Blk.arr (1 : Nat) m fun j => [AV.v (Value.int IntKind.i64 (g j))]),
              some
                (Blk.arr (1 : Nat) (BA.nil.t ++ numB n).size fun j =>
                  [AV.v (Value.int IntKind.u8 (sbyte (BA.nil.t ++ numB n) j))])]))
        (Tree.leaf
          (Out.mk AEx.normal
            [AV.any, AV.any, AV.hs (1 : Nat) (0 : Nat) (BA.nil.t ++ numB n).size, AV.hs (0 : Nat) (0 : Nat) m,
              AV.v (Value.int IntKind.i64 (↑m : Int)),
              AV.v (Value.int IntKind.i64 (IntKind.i64.wrap ((↑(0 : Nat) : Int) + (1 : Int))))]
            [some (Blk.arr (1 : Nat) m fun j => [AV.v (Value.int IntKind.i64 (g j))]),
              some
                (Blk.arr (1 : Nat) (BA.nil.t ++ numB n).size fun j =>
                  [AV.v (Value.int IntKind.u8 (sbyte (BA.nil.t ++ numB n) j))])])))))
  (Tree.leaf
    (Out.mk (AEx.exit (0 : Nat))
      [AV.any, AV.any, AV.v (Value.slice none (0 : Nat) (0 : Nat)), AV.hs (0 : Nat) (0 : Nat) m,
        AV.v (Value.int IntKind.i64 (↑m : Int)), AV.v (Value.int IntKind.i64 (↑(0 : Nat) : Int))]
      [some (Blk.arr (1 : Nat) m fun j => [AV.v (Value.int IntKind.i64 (g j))])])) := by kernel_rfl
theorem roundMh1 (m : Nat) (g : Nat → Int) (n i : Nat) (t : ByteArray) (ht : (BA.hs t).ok) (h : n ≤ 4611686018427387904) : roundE (P := Try.prog) (Γ := Γd) [CT.at 34 (ansNum (.hs t) n ht h)] Lno false 1 0 loopM [2, 3, 4, 8, 9, 10] [] 25 [.any, .any, .hs 1 0 t.size, .hs 0 0 m, .v (.int .i64 (m : Int)), .v (.int .i64 (i : Int))] [some (.arr 1 m (i64F g)), some (.arr 1 t.size (bsF t))] =
  Tree.br (decide ((↑i : Int) < (↑m : Int)))
  (Tree.chk (decide ((0 : Int) ≤ (↑i : Int)) && decide ((↑i : Int) < (↑m : Int)))
    (Tree.chk
      (cl
        (LeL [AV.hs (0 : Nat) (0 : Nat) t.size, AV.v (Value.int IntKind.i64 (g ((0 : Nat) + (↑i : Int).toNat)))]
            [AV.hs (0 : Nat) (0 : Nat) t.size, AV.v (Value.int IntKind.i64 (↑n : Int))] ∧
          LeH [some (Blk.arr (1 : Nat) t.size fun j => [AV.v (Value.int IntKind.u8 (sbyte t j))])]
            [some (Blk.arr (1 : Nat) t.size fun j => [AV.v (Value.int IntKind.u8 (sbyte t j))])]))
      (Tree.br false
        (Tree.leaf
          (Out.mk AEx.ret
            [AV.v (Value.slice none (0 : Nat) (0 : Nat)), AV.v (Value.int IntKind.i64 (0 : Int)),
              AV.hs (1 : Nat) (0 : Nat) ((BA.hs t).t ++ numB n).size, AV.hs (0 : Nat) (0 : Nat) m,
              AV.v (Value.int IntKind.i64 (↑m : Int)), AV.v (Value.int IntKind.i64 (↑i : Int))]
            [some (Blk.arr (1 : Nat) m fun j => [AV.v (Value.int IntKind.i64 (g j))]),
              some
                (Blk.arr (1 : Nat) ((BA.hs t).t ++ numB n).size fun j =>
                  [AV.v (Value.int IntKind.u8 (sbyte ((BA.hs t).t ++ numB n) j))])]))
        (Tree.leaf
          (Out.mk AEx.normal
            [AV.any, AV.any, AV.hs (1 : Nat) (0 : Nat) ((BA.hs t).t ++ numB n).size, AV.hs (0 : Nat) (0 : Nat) m,
              AV.v (Value.int IntKind.i64 (↑m : Int)),
              AV.v (Value.int IntKind.i64 (IntKind.i64.wrap ((↑i : Int) + (1 : Int))))]
            [some (Blk.arr (1 : Nat) m fun j => [AV.v (Value.int IntKind.i64 (g j))]),
              some
                (Blk.arr (1 : Nat) ((BA.hs t).t ++ numB n).size fun j =>
                  [AV.v (Value.int IntKind.u8 (sbyte ((BA.hs t).t ++ numB n) j))])])))))
  (Tree.leaf
    (Out.mk (AEx.exit (0 : Nat))
      [AV.any, AV.any, AV.hs (1 : Nat) (0 : Nat) t.size, AV.hs (0 : Nat) (0 : Nat) m,
        AV.v (Value.int IntKind.i64 (↑m : Int)), AV.v (Value.int IntKind.i64 (↑i : Int))]
      [some (Blk.arr (1 : Nat) m fun j => [AV.v (Value.int IntKind.i64 (g j))]),
        some (Blk.arr (1 : Nat) t.size fun j => [AV.v (Value.int IntKind.u8 (sbyte t j))])])) := by kernel_rfl
theorem roundMb0 (m : Nat) (g : Nat → Int) (n : Int) (h : n < 0 ∨ 4611686018427387904 < n) : roundE (P := Try.prog) (Γ := Γd) [CT.at 34 (ansBad .nil n trivial h)] Lno false 0 0 loopM [2, 3, 4, 8, 9, 10] [] 25 [.any, .any, .v (.slice none 0 0), .sl 1 m (i64F g), .v (.int .i64 (m : Int)), .v (.int .i64 (0 : Nat))] [] =
  Tree.br (decide ((↑(0 : Nat) : Int) < (↑m : Int)))
  (Tree.chk (true && decide ((↑(0 : Nat) : Int) < (↑m : Int)))
    (Tree.chk
      (cl
        (LeL [AV.v (Value.slice none (0 : Nat) (0 : Nat)), AV.v (Value.int IntKind.i64 (g (↑(0 : Nat) : Int).toNat))]
            [AV.v (Value.slice none (0 : Nat) (0 : Nat)), AV.v (Value.int IntKind.i64 n)] ∧
          LeH [] []))
      (Tree.br true
        (Tree.leaf
          (Out.mk AEx.ret
            [AV.v (Value.slice none (0 : Nat) (0 : Nat)), AV.v (Value.int IntKind.i64 (10 : Int)),
              AV.v (Value.slice none (0 : Nat) (0 : Nat)),
              AV.sl (1 : Nat) m fun j => [AV.v (Value.int IntKind.i64 (g j))], AV.v (Value.int IntKind.i64 (↑m : Int)),
              AV.v (Value.int IntKind.i64 (↑(0 : Nat) : Int))]
            []))
        (Tree.leaf
          (Out.mk AEx.normal
            [AV.any, AV.any, AV.v (Value.slice none (0 : Nat) (0 : Nat)),
              AV.sl (1 : Nat) m fun j => [AV.v (Value.int IntKind.i64 (g j))], AV.v (Value.int IntKind.i64 (↑m : Int)),
              AV.v (Value.int IntKind.i64 (IntKind.i64.wrap ((↑(0 : Nat) : Int) + (1 : Int))))]
            [])))))
  (Tree.leaf
    (Out.mk (AEx.exit (0 : Nat))
      [AV.any, AV.any, AV.v (Value.slice none (0 : Nat) (0 : Nat)),
        AV.sl (1 : Nat) m fun j => [AV.v (Value.int IntKind.i64 (g j))], AV.v (Value.int IntKind.i64 (↑m : Int)),
        AV.v (Value.int IntKind.i64 (↑(0 : Nat) : Int))]
      [])) := by kernel_rfl
theorem roundMb1 (m : Nat) (g : Nat → Int) (n : Int) (i : Nat) (t : ByteArray) (ht : (BA.hs t).ok) (h : n < 0 ∨ 4611686018427387904 < n) : roundE (P := Try.prog) (Γ := Γd) [CT.at 34 (ansBad (.hs t) n ht h)] Lno false 0 0 loopM [2, 3, 4, 8, 9, 10] [] 25 [.any, .any, .hs 0 0 t.size, .sl 1 m (i64F g), .v (.int .i64 (m : Int)), .v (.int .i64 (i : Int))] [some (.arr 1 t.size (bsF t))] =
  Tree.br (decide ((↑i : Int) < (↑m : Int)))
  (Tree.chk (decide ((0 : Int) ≤ (↑i : Int)) && decide ((↑i : Int) < (↑m : Int)))
    (Tree.chk
      (cl
        (LeL [AV.hs (0 : Nat) (0 : Nat) t.size, AV.v (Value.int IntKind.i64 (g (↑i : Int).toNat))]
            [AV.hs (0 : Nat) (0 : Nat) t.size, AV.v (Value.int IntKind.i64 n)] ∧
          LeH [some (Blk.arr (1 : Nat) t.size fun j => [AV.v (Value.int IntKind.u8 (sbyte t j))])]
            [some (Blk.arr (1 : Nat) t.size fun j => [AV.v (Value.int IntKind.u8 (sbyte t j))])]))
      (Tree.br true
        (Tree.leaf
          (Out.mk AEx.ret
            [AV.v (Value.slice none (0 : Nat) (0 : Nat)), AV.v (Value.int IntKind.i64 (10 : Int)),
              AV.v (Value.slice none (0 : Nat) (0 : Nat)),
              AV.sl (1 : Nat) m fun j => [AV.v (Value.int IntKind.i64 (g j))], AV.v (Value.int IntKind.i64 (↑m : Int)),
              AV.v (Value.int IntKind.i64 (↑i : Int))]
            []))
        (Tree.leaf
          (Out.mk AEx.normal
            [AV.any, AV.any, AV.v (Value.slice none (0 : Nat) (0 : Nat)),
              AV.sl (1 : Nat) m fun j => [AV.v (Value.int IntKind.i64 (g j))], AV.v (Value.int IntKind.i64 (↑m : Int)),
              AV.v (Value.int IntKind.i64 (IntKind.i64.wrap ((↑i : Int) + (1 : Int))))]
            [])))))
  (Tree.leaf
    (Out.mk (AEx.exit (0 : Nat))
      [AV.any, AV.any, AV.hs (0 : Nat) (0 : Nat) t.size,
        AV.sl (1 : Nat) m fun j => [AV.v (Value.int IntKind.i64 (g j))], AV.v (Value.int IntKind.i64 (↑m : Int)),
        AV.v (Value.int IntKind.i64 (↑i : Int))]
      [some (Blk.arr (1 : Nat) t.size fun j => [AV.v (Value.int IntKind.u8 (sbyte t j))])])) := by kernel_rfl
theorem pick {g : Nat → Int} {m i : Nat} (hok : ∀ j, j < m → okN (g j) = true) : ∃ k : Nat, k ≤ 4611686018427387904 ∧ (i < m → g i = k) := by
  by_cases h : i < m
  · obtain ⟨k, h1, h2⟩ := okN_nat (hok i h)
    exact ⟨k, h2, fun _ => h1⟩
  · exact ⟨0, by decide, fun h' => absurd h' h⟩
theorem hs_ok {g : Nat → Int} {i : Nat} (h : ∀ j, j < i + 1 → okN (g j) = true) (hi : i + 1 ≤ 100000) : (BA.hs (catN g (i + 1))).ok := ⟨small_cat h hi, (catN_small h).2 (by omega)⟩
theorem loopMg_ok (a : NA) (hok : ∀ j, j < a.m → okN (a.g j) = true) (hm : a.m ≤ 100000) : ∀ i, i ≤ a.m → LoopOK Try.prog Γd a.bl.length 25 loopM (LSpec.at [2, 3, 4, 8, 9, 10] [] (SM a i) (OMg a)) := by
  refine loop_at (S := SM a) (pre := fun i => i ≤ a.m) (O := fun _ => OMg a) (k := 0) (fun i => a.m - i) fun i hi => ?_
  cases a with
  | nil =>
    obtain rfl : i = 0 := Nat.le_zero.1 hi
    refine ⟨[], Lno, false, noLoops (by kernel_rfl), ?_⟩
    show (roundE (P := Try.prog) (Γ := Γd) [] Lno false 0 0 loopM [2, 3, 4, 8, 9, 10] [] 25 [.any, .any, .v (.slice none 0 0), .v (.slice none 0 0), .v (.int .i64 (0 : Nat)), .v (.int .i64 (0 : Nat))] []).sat _
    rw [roundMn]
    exact ⟨fun h => by simp at h, fun _ => ⟨rfl, ⟨.any _, .any _, .refl _, .any _, .any _, .any _, trivial⟩, trivial⟩⟩
  | sl m g =>
    have hok : ∀ j, j < m → okN (g j) = true := hok
    have hm : m ≤ 100000 := hm
    obtain ⟨n, hn, hg⟩ := pick (i := i) hok
    cases i with
    | zero =>
      refine ⟨[CT.at 34 (ansNum .nil n trivial hn)], Lno, false, noLoops (by kernel_rfl), ?_⟩
      show (roundE (P := Try.prog) (Γ := Γd) [CT.at 34 (ansNum .nil n trivial hn)] Lno false 0 0 loopM [2, 3, 4, 8, 9, 10] [] 25 [.any, .any, .v (.slice none 0 0), .sl 1 m (i64F g), .v (.int .i64 (m : Int)), .v (.int .i64 (0 : Nat))] []).sat _
      rw [roundMs0 m g n hn]
      refine ⟨fun hc => ?_, fun hc => ?_⟩
      · have hlt : 0 < m := by have := of_decide_eq_true hc; omega
        have h := hg hlt
        have e : BA.nil.t ++ numB n = catN g (0 + 1) := by
          show catN g (0) ++ numB n = catN g (0) ++ numB (g (0)).toNat
          rw [h, Int.toNat_natCast]
        have e3 : IntKind.i64.wrap (((0 : Nat) : Int) + (1 : Int)) = ((0 + 1 : Nat) : Int) := by rw [wrap64E]; omega
        rw [e, e3]
        refine ⟨by rw [Bool.true_and]; exact hc, cl_iff.2 ⟨⟨.refl _, .of_eq (by simp only [Int.toNat_natCast]; rw [h]), trivial⟩, trivial⟩, fun h => by simp at h, fun _ => ⟨0 + 1, LeL.refl _, LeH.refl _, hlt, rfl, ?_⟩⟩
        show m - (0 + 1) < m - (0); omega
      · have h := of_decide_eq_false hc
        obtain rfl : m = 0 := by have h2 : 0 ≤ m := hi; omega
        exact ⟨rfl, ⟨.any _, .any _, .refl _, .any _, .any _, .any _, trivial⟩, LeH.refl _⟩
    | succ i =>
      have hb : (BA.hs (catN g (i + 1))).ok := hs_ok (fun j hj => hok j (Nat.lt_of_lt_of_le hj hi)) (Nat.le_trans hi hm)
      refine ⟨[CT.at 34 (ansNum (.hs (catN g (i + 1))) n hb hn)], Lno, false, noLoops (by kernel_rfl), ?_⟩
      show (roundE (P := Try.prog) (Γ := Γd) [CT.at 34 (ansNum (.hs (catN g (i + 1))) n hb hn)] Lno false 0 0 loopM [2, 3, 4, 8, 9, 10] [] 25 [.any, .any, .hs 0 0 (catN g (i + 1)).size, .sl 1 m (i64F g), .v (.int .i64 (m : Int)), .v (.int .i64 ((i + 1 : Nat) : Int))] [some (.arr 1 (catN g (i + 1)).size (bsF (catN g (i + 1))))]).sat _
      rw [roundMs1 m g n (i + 1) (catN g (i + 1)) hb hn]
      refine ⟨fun hc => ?_, fun hc => ?_⟩
      · have hlt : i + 1 < m := by have := of_decide_eq_true hc; omega
        have h := hg hlt
        have e : (BA.hs (catN g (i + 1))).t ++ numB n = catN g (i + 1 + 1) := by
          show catN g (i + 1) ++ numB n = catN g (i + 1) ++ numB (g (i + 1)).toNat
          rw [h, Int.toNat_natCast]
        have e3 : IntKind.i64.wrap (((i + 1 : Nat) : Int) + (1 : Int)) = ((i + 1 + 1 : Nat) : Int) := by rw [wrap64E]; omega
        rw [e, e3]
        refine ⟨by rw [hc]; simp; omega, cl_iff.2 ⟨⟨.refl _, .of_eq (by simp only [Int.toNat_natCast]; rw [h]), trivial⟩, LeH.refl _⟩, fun h => by simp at h, fun _ => ⟨i + 1 + 1, LeL.refl _, LeH.refl _, hlt, rfl, ?_⟩⟩
        show m - (i + 1 + 1) < m - (i + 1); omega
      · have h := of_decide_eq_false hc
        obtain rfl : m = i + 1 := by have h2 : i + 1 ≤ m := hi; omega
        exact ⟨rfl, ⟨.any _, .any _, .refl _, .any _, .any _, .any _, trivial⟩, LeH.refl _⟩
  | hs m g =>
    have hok : ∀ j, j < m → okN (g j) = true := hok
    have hm : m ≤ 100000 := hm
    obtain ⟨n, hn, hg⟩ := pick (i := i) hok
    cases i with
    | zero =>
      refine ⟨[CT.at 34 (ansNum .nil n trivial hn)], Lno, false, noLoops (by kernel_rfl), ?_⟩
      show (roundE (P := Try.prog) (Γ := Γd) [CT.at 34 (ansNum .nil n trivial hn)] Lno false 1 0 loopM [2, 3, 4, 8, 9, 10] [] 25 [.any, .any, .v (.slice none 0 0), .hs 0 0 m, .v (.int .i64 (m : Int)), .v (.int .i64 (0 : Nat))] [some (.arr 1 m (i64F g))]).sat _
      rw [roundMh0 m g n hn]
      refine ⟨fun hc => ?_, fun hc => ?_⟩
      · have hlt : 0 < m := by have := of_decide_eq_true hc; omega
        have h := hg hlt
        have e : BA.nil.t ++ numB n = catN g (0 + 1) := by
          show catN g (0) ++ numB n = catN g (0) ++ numB (g (0)).toNat
          rw [h, Int.toNat_natCast]
        have e3 : IntKind.i64.wrap (((0 : Nat) : Int) + (1 : Int)) = ((0 + 1 : Nat) : Int) := by rw [wrap64E]; omega
        rw [e, e3]
        refine ⟨by rw [Bool.true_and]; exact hc, cl_iff.2 ⟨⟨.refl _, .of_eq (by simp only [Int.toNat_natCast, Nat.zero_add]; rw [h]), trivial⟩, trivial⟩, fun h => by simp at h, fun _ => ⟨0 + 1, LeL.refl _, LeH.refl _, hlt, rfl, ?_⟩⟩
        show m - (0 + 1) < m - (0); omega
      · have h := of_decide_eq_false hc
        obtain rfl : m = 0 := by have h2 : 0 ≤ m := hi; omega
        exact ⟨rfl, ⟨.any _, .any _, .refl _, .any _, .any _, .any _, trivial⟩, LeH.refl _⟩
    | succ i =>
      have hb : (BA.hs (catN g (i + 1))).ok := hs_ok (fun j hj => hok j (Nat.lt_of_lt_of_le hj hi)) (Nat.le_trans hi hm)
      refine ⟨[CT.at 34 (ansNum (.hs (catN g (i + 1))) n hb hn)], Lno, false, noLoops (by kernel_rfl), ?_⟩
      show (roundE (P := Try.prog) (Γ := Γd) [CT.at 34 (ansNum (.hs (catN g (i + 1))) n hb hn)] Lno false 1 0 loopM [2, 3, 4, 8, 9, 10] [] 25 [.any, .any, .hs 1 0 (catN g (i + 1)).size, .hs 0 0 m, .v (.int .i64 (m : Int)), .v (.int .i64 ((i + 1 : Nat) : Int))] [some (.arr 1 m (i64F g)), some (.arr 1 (catN g (i + 1)).size (bsF (catN g (i + 1))))]).sat _
      rw [roundMh1 m g n (i + 1) (catN g (i + 1)) hb hn]
      refine ⟨fun hc => ?_, fun hc => ?_⟩
      · have hlt : i + 1 < m := by have := of_decide_eq_true hc; omega
        have h := hg hlt
        have e : (BA.hs (catN g (i + 1))).t ++ numB n = catN g (i + 1 + 1) := by
          show catN g (i + 1) ++ numB n = catN g (i + 1) ++ numB (g (i + 1)).toNat
          rw [h, Int.toNat_natCast]
        have e3 : IntKind.i64.wrap (((i + 1 : Nat) : Int) + (1 : Int)) = ((i + 1 + 1 : Nat) : Int) := by rw [wrap64E]; omega
        rw [e, e3]
        refine ⟨by rw [hc]; simp; omega, cl_iff.2 ⟨⟨.refl _, .of_eq (by simp only [Int.toNat_natCast, Nat.zero_add]; rw [h]), trivial⟩, LeH.refl _⟩, fun h => by simp at h, fun _ => ⟨i + 1 + 1, LeL.refl _, LeH.refl _, hlt, rfl, ?_⟩⟩
        show m - (i + 1 + 1) < m - (i + 1); omega
      · have h := of_decide_eq_false hc
        obtain rfl : m = i + 1 := by have h2 : i + 1 ≤ m := hi; omega
        exact ⟨rfl, ⟨.any _, .any _, .refl _, .any _, .any _, .any _, trivial⟩, LeH.refl _⟩
theorem okN_bad {n : Int} (h : okN n = false) : n < 0 ∨ 4611686018427387904 < n := by
  unfold okN at h
  by_cases h1 : n < 0
  · exact .inl h1
  · rw [decide_eq_true (show 0 ≤ n by omega), Bool.true_and, decide_eq_false_iff_not] at h
    exact .inr (by omega)
theorem loopMb_ok (m : Nat) (g : Nat → Int) (b : Nat) (hb : b < m) (hok : ∀ j, j < b → okN (g j) = true) (hbad : okN (g b) = false) (hm : m ≤ 100000) : ∀ i, i ≤ b → LoopOK Try.prog Γd 0 25 loopM (LSpec.at [2, 3, 4, 8, 9, 10] [] (SM (.sl m g) i) (OMb (.sl m g))) := by
  refine loop_at (S := SM (.sl m g)) (pre := fun i => i ≤ b) (O := fun _ => OMb (.sl m g)) (k := 0) (fun i => b - i) fun i hi => ?_
  rcases Nat.lt_or_ge i b with hib | hib
  · obtain ⟨n, hg, hn⟩ := okN_nat (hok i hib)
    cases i with
    | zero =>
      refine ⟨[CT.at 34 (ansNum .nil n trivial hn)], Lno, false, noLoops (by kernel_rfl), ?_⟩
      show (roundE (P := Try.prog) (Γ := Γd) [CT.at 34 (ansNum .nil n trivial hn)] Lno false 0 0 loopM [2, 3, 4, 8, 9, 10] [] 25 [.any, .any, .v (.slice none 0 0), .sl 1 m (i64F g), .v (.int .i64 (m : Int)), .v (.int .i64 (0 : Nat))] []).sat _
      rw [roundMs0 m g n hn]
      refine ⟨fun hc => ?_, fun hc => ?_⟩
      · have hlt : 0 < m := by have := of_decide_eq_true hc; omega
        have h := hg
        have e : BA.nil.t ++ numB n = catN g (0 + 1) := by
          show catN g (0) ++ numB n = catN g (0) ++ numB (g (0)).toNat
          rw [h, Int.toNat_natCast]
        have e3 : IntKind.i64.wrap (((0 : Nat) : Int) + (1 : Int)) = ((0 + 1 : Nat) : Int) := by rw [wrap64E]; omega
        rw [e, e3]
        refine ⟨by rw [Bool.true_and]; exact hc, cl_iff.2 ⟨⟨.refl _, .of_eq (by simp only [Int.toNat_natCast]; rw [h]), trivial⟩, trivial⟩, fun h => by simp at h, fun _ => ⟨0 + 1, LeL.refl _, LeH.refl _, Nat.succ_le_of_lt hib, rfl, ?_⟩⟩
        show b - (0 + 1) < b - (0); omega
      · have h := of_decide_eq_false hc
        omega
    | succ i =>
      have hb' : (BA.hs (catN g (i + 1))).ok := hs_ok (fun j hj => hok j (Nat.lt_of_lt_of_le hj hi)) (by omega)
      refine ⟨[CT.at 34 (ansNum (.hs (catN g (i + 1))) n hb' hn)], Lno, false, noLoops (by kernel_rfl), ?_⟩
      show (roundE (P := Try.prog) (Γ := Γd) [CT.at 34 (ansNum (.hs (catN g (i + 1))) n hb' hn)] Lno false 0 0 loopM [2, 3, 4, 8, 9, 10] [] 25 [.any, .any, .hs 0 0 (catN g (i + 1)).size, .sl 1 m (i64F g), .v (.int .i64 (m : Int)), .v (.int .i64 ((i + 1 : Nat) : Int))] [some (.arr 1 (catN g (i + 1)).size (bsF (catN g (i + 1))))]).sat _
      rw [roundMs1 m g n (i + 1) (catN g (i + 1)) hb' hn]
      refine ⟨fun hc => ?_, fun hc => ?_⟩
      · have hlt : i + 1 < m := by have := of_decide_eq_true hc; omega
        have h := hg
        have e : (BA.hs (catN g (i + 1))).t ++ numB n = catN g (i + 1 + 1) := by
          show catN g (i + 1) ++ numB n = catN g (i + 1) ++ numB (g (i + 1)).toNat
          rw [h, Int.toNat_natCast]
        have e3 : IntKind.i64.wrap (((i + 1 : Nat) : Int) + (1 : Int)) = ((i + 1 + 1 : Nat) : Int) := by rw [wrap64E]; omega
        rw [e, e3]
        refine ⟨by rw [hc]; simp; omega, cl_iff.2 ⟨⟨.refl _, .of_eq (by simp only [Int.toNat_natCast]; rw [h]), trivial⟩, LeH.refl _⟩, fun h => by simp at h, fun _ => ⟨i + 1 + 1, LeL.refl _, LeH.refl _, Nat.succ_le_of_lt hib, rfl, ?_⟩⟩
        show b - (i + 1 + 1) < b - (i + 1); omega
      · have h := of_decide_eq_false hc
        omega
  · obtain rfl : i = b := Nat.le_antisymm hi hib
    have hn := okN_bad hbad
    cases i with
    | zero =>
      refine ⟨[CT.at 34 (ansBad .nil (g 0) trivial hn)], Lno, false, noLoops (by kernel_rfl), ?_⟩
      show (roundE (P := Try.prog) (Γ := Γd) [CT.at 34 (ansBad .nil (g 0) trivial hn)] Lno false 0 0 loopM [2, 3, 4, 8, 9, 10] [] 25 [.any, .any, .v (.slice none 0 0), .sl 1 m (i64F g), .v (.int .i64 (m : Int)), .v (.int .i64 (0 : Nat))] []).sat _
      rw [roundMb0 m g (g 0) hn]
      have hc : decide (((0 : Nat) : Int) < (m : Int)) = true := decide_eq_true (by omega)
      rw [hc]
      exact ⟨fun _ => ⟨rfl, cl_iff.2 ⟨LeL.refl _, trivial⟩, fun _ => ⟨rfl, ⟨.refl _, .refl _, .any _, .any _, .any _, .any _, trivial⟩, trivial⟩, fun h => by simp at h⟩, fun h => by simp at h⟩
    | succ i =>
      have hb' : (BA.hs (catN g (i + 1))).ok := hs_ok (fun j hj => hok j hj) (by omega)
      refine ⟨[CT.at 34 (ansBad (.hs (catN g (i + 1))) (g (i + 1)) hb' hn)], Lno, false, noLoops (by kernel_rfl), ?_⟩
      show (roundE (P := Try.prog) (Γ := Γd) [CT.at 34 (ansBad (.hs (catN g (i + 1))) (g (i + 1)) hb' hn)] Lno false 0 0 loopM [2, 3, 4, 8, 9, 10] [] 25 [.any, .any, .hs 0 0 (catN g (i + 1)).size, .sl 1 m (i64F g), .v (.int .i64 (m : Int)), .v (.int .i64 ((i + 1 : Nat) : Int))] [some (.arr 1 (catN g (i + 1)).size (bsF (catN g (i + 1))))]).sat _
      rw [roundMb1 m g (g (i + 1)) (i + 1) (catN g (i + 1)) hb' hn]
      have hc : decide (((i + 1 : Nat) : Int) < (m : Int)) = true := decide_eq_true (by omega)
      rw [hc]
      exact ⟨fun _ => ⟨by rw [decide_eq_true (show (0 : Int) ≤ ((i + 1 : Nat) : Int) by omega)]; rfl, cl_iff.2 ⟨LeL.refl _, LeH.refl _⟩, fun _ => ⟨rfl, ⟨.refl _, .refl _, .any _, .any _, .any _, .any _, trivial⟩, trivial⟩, fun h => by simp at h⟩, fun h => by simp at h⟩
theorem runMg (a : NA) (m : Nat) (g : Nat → Int) : bodyE (P := Try.prog) (Γ := Γd) [] (fun _ => LSpec.at [2, 3, 4, 8, 9, 10] [] (SM (.sl (m + 1) g) 0) (OMg (.sl (m + 1) g))) false 25 [.tmp 2, .tmp 3] (bodyOf Try.f24) [.sl 1 (m + 1) (i64F g)] [] =
  Tree.chk
  (cl
    (LeL
        [AV.v (Value.slice none (0 : Nat) (0 : Nat)), AV.v (Value.int IntKind.i64 (0 : Int)),
          AV.v (Value.slice none (0 : Nat) (0 : Nat)),
          AV.sl (1 : Nat) (m + (1 : Nat)) fun j => [AV.v (Value.int IntKind.i64 (g j))],
          AV.v (Value.int IntKind.i64 (↑(m + (1 : Nat)) : Int)), AV.v (Value.int IntKind.i64 (0 : Int))]
        [AV.any, AV.any, AV.v (Value.slice none (0 : Nat) (0 : Nat)),
          AV.sl (1 : Nat) (m + (1 : Nat)) fun j => [AV.v (Value.int IntKind.i64 (g j))],
          AV.v (Value.int IntKind.i64 (↑(NA.sl (m + (1 : Nat)) g).m : Int)),
          AV.v (Value.int IntKind.i64 (↑(0 : Nat) : Int))] ∧
      LeH [] []))
  (Tree.leaf
    (Ans.mk
      (AV.tup
        [AV.hs (0 : Nat) (0 : Nat)
            (catN (NA.sl (m + (1 : Nat)) g).g (Nat.add._f Nat.zero PUnit.unit m + (1 : Nat))).size,
          AV.v (Value.int IntKind.i64 (0 : Int))])
      [some
          (Blk.arr (1 : Nat) (catN (NA.sl (m + (1 : Nat)) g).g (Nat.add._f Nat.zero PUnit.unit m + (1 : Nat))).size
            fun j =>
            [AV.v
                (Value.int IntKind.u8
                  (sbyte (catN (NA.sl (m + (1 : Nat)) g).g (Nat.add._f Nat.zero PUnit.unit m + (1 : Nat))) j))])])) := by kernel_rfl
theorem runM0 (g : Nat → Int) : bodyE (P := Try.prog) (Γ := Γd) [] (fun _ => LSpec.at [2, 3, 4, 8, 9, 10] [] (SM (.sl 0 g) 0) (OMg (.sl 0 g))) false 25 [.tmp 2, .tmp 3] (bodyOf Try.f24) [.sl 1 0 (i64F g)] [] =
  Tree.chk
  (cl
    (LeL
        [AV.v (Value.slice none (0 : Nat) (0 : Nat)), AV.v (Value.int IntKind.i64 (0 : Int)),
          AV.v (Value.slice none (0 : Nat) (0 : Nat)),
          AV.sl (1 : Nat) (0 : Nat) fun j => [AV.v (Value.int IntKind.i64 (g j))],
          AV.v (Value.int IntKind.i64 (↑(0 : Nat) : Int)), AV.v (Value.int IntKind.i64 (0 : Int))]
        [AV.any, AV.any, AV.v (Value.slice none (0 : Nat) (0 : Nat)),
          AV.sl (1 : Nat) (0 : Nat) fun j => [AV.v (Value.int IntKind.i64 (g j))],
          AV.v (Value.int IntKind.i64 (↑(0 : Nat) : Int)), AV.v (Value.int IntKind.i64 (↑(0 : Nat) : Int))] ∧
      LeH [] []))
  (Tree.leaf (Ans.mk (AV.tup [AV.v (Value.slice none (0 : Nat) (0 : Nat)), AV.v (Value.int IntKind.i64 (0 : Int))]) [])) := by kernel_rfl
theorem runMn  : bodyE (P := Try.prog) (Γ := Γd) [] (fun _ => LSpec.at [2, 3, 4, 8, 9, 10] [] (SM .nil 0) (OMg .nil)) false 25 [.tmp 2, .tmp 3] (bodyOf Try.f24) [.v (.slice none 0 0)] [] =
  Tree.chk
  (cl
    (LeL
        [AV.v (Value.slice none (0 : Nat) (0 : Nat)), AV.v (Value.int IntKind.i64 (0 : Int)),
          AV.v (Value.slice none (0 : Nat) (0 : Nat)), AV.v (Value.slice none (0 : Nat) (0 : Nat)),
          AV.v (Value.int IntKind.i64 (0 : Int)), AV.v (Value.int IntKind.i64 (0 : Int))]
        [AV.any, AV.any, AV.v (Value.slice none (0 : Nat) (0 : Nat)), AV.v (Value.slice none (0 : Nat) (0 : Nat)),
          AV.v (Value.int IntKind.i64 (↑(0 : Nat) : Int)), AV.v (Value.int IntKind.i64 (↑(0 : Nat) : Int))] ∧
      LeH [] []))
  (Tree.leaf (Ans.mk (AV.tup [AV.v (Value.slice none (0 : Nat) (0 : Nat)), AV.v (Value.int IntKind.i64 (0 : Int))]) [])) := by kernel_rfl
theorem runMh (m : Nat) (g : Nat → Int) : bodyE (P := Try.prog) (Γ := Γd) [] (fun _ => LSpec.at [2, 3, 4, 8, 9, 10] [] (SM (.hs (m + 1) g) 0) (OMg (.hs (m + 1) g))) false 25 [.tmp 2, .tmp 3] (bodyOf Try.f24) [.hs 0 0 (m + 1)] [.arr 1 (m + 1) (i64F g)] =
  Tree.chk
  (cl
    (LeL
        [AV.v (Value.slice none (0 : Nat) (0 : Nat)), AV.v (Value.int IntKind.i64 (0 : Int)),
          AV.v (Value.slice none (0 : Nat) (0 : Nat)), AV.hs (0 : Nat) (0 : Nat) (m + (1 : Nat)),
          AV.v (Value.int IntKind.i64 (↑(m + (1 : Nat)) : Int)), AV.v (Value.int IntKind.i64 (0 : Int))]
        [AV.any, AV.any, AV.v (Value.slice none (0 : Nat) (0 : Nat)), AV.hs (0 : Nat) (0 : Nat) (m + (1 : Nat)),
          AV.v (Value.int IntKind.i64 (↑(NA.hs (m + (1 : Nat)) g).m : Int)),
          AV.v (Value.int IntKind.i64 (↑(0 : Nat) : Int))] ∧
      LeH [some (Blk.arr (1 : Nat) (m + (1 : Nat)) fun j => [AV.v (Value.int IntKind.i64 (g j))])]
        [some (Blk.arr (1 : Nat) (m + (1 : Nat)) fun j => [AV.v (Value.int IntKind.i64 (g j))])]))
  (Tree.leaf
    (Ans.mk
      (AV.tup
        [AV.hs (1 : Nat) (0 : Nat)
            (catN (NA.hs (m + (1 : Nat)) g).g (Nat.add._f Nat.zero PUnit.unit m + (1 : Nat))).size,
          AV.v (Value.int IntKind.i64 (0 : Int))])
      [some (Blk.arr (1 : Nat) (m + (1 : Nat)) fun j => [AV.v (Value.int IntKind.i64 (g j))]),
        some
          (Blk.arr (1 : Nat) (catN (NA.hs (m + (1 : Nat)) g).g (Nat.add._f Nat.zero PUnit.unit m + (1 : Nat))).size
            fun j =>
            [AV.v
                (Value.int IntKind.u8
                  (sbyte (catN (NA.hs (m + (1 : Nat)) g).g (Nat.add._f Nat.zero PUnit.unit m + (1 : Nat))) j))])])) := by kernel_rfl
theorem runMb (m : Nat) (g : Nat → Int) : bodyE (P := Try.prog) (Γ := Γd) [] (fun _ => LSpec.at [2, 3, 4, 8, 9, 10] [] (SM (.sl m g) 0) (OMb (.sl m g))) false 25 [.tmp 2, .tmp 3] (bodyOf Try.f24) [.sl 1 m (i64F g)] [] =
  Tree.chk
  (cl
    (LeL
        [AV.v (Value.slice none (0 : Nat) (0 : Nat)), AV.v (Value.int IntKind.i64 (0 : Int)),
          AV.v (Value.slice none (0 : Nat) (0 : Nat)), AV.sl (1 : Nat) m fun j => [AV.v (Value.int IntKind.i64 (g j))],
          AV.v (Value.int IntKind.i64 (↑m : Int)), AV.v (Value.int IntKind.i64 (0 : Int))]
        [AV.any, AV.any, AV.v (Value.slice none (0 : Nat) (0 : Nat)),
          AV.sl (1 : Nat) m fun j => [AV.v (Value.int IntKind.i64 (g j))],
          AV.v (Value.int IntKind.i64 (↑(NA.sl m g).m : Int)), AV.v (Value.int IntKind.i64 (↑(0 : Nat) : Int))] ∧
      LeH [] []))
  (Tree.leaf
    (Ans.mk (AV.tup [AV.v (Value.slice none (0 : Nat) (0 : Nat)), AV.v (Value.int IntKind.i64 (10 : Int))]) [])) := by kernel_rfl
def outBl (g : Nat → Int) : Nat → List Blk
  | 0 => []
  | i + 1 => [.arr 1 (catN g (i + 1)).size (bsF (catN g (i + 1)))]
def NA.ok (a : NA) : Prop := (∀ j, j < a.m → okN (a.g j) = true) ∧ a.m ≤ 100000 ∧ (a.k = 1 → 0 < a.m)
theorem ansNums : ∀ (a : NA), a.ok → Answers Try.prog Γd 24 [a.av] a.bl (.tup [outV a.k a.g a.m, .v (.int .i64 0)]) (a.bl.map some) (outBl a.g a.m)
  | .nil, h => answers (fn := Try.f24) (c := bodyOf Try.f24) (ntmps := 25) (results := [.tmp 2, .tmp 3]) [] (fun _ => LSpec.at [2, 3, 4, 8, 9, 10] [] (SM .nil 0) (OMg .nil)) false Try.func24 (by kernel_rfl) (by kernel_rfl) (by kernel_rfl) (by kernel_rfl) (by simp) rfl
    (oneLoop (b := loopM) (by kernel_rfl) (loopMg_ok .nil h.1 h.2.1 0 (Nat.zero_le _))) (Meets.of runMn ⟨cl_iff.2 ⟨⟨.any _, .any _, .refl _, .refl _, .refl _, .refl _, trivial⟩, trivial⟩, .refl _, trivial⟩)
  | .sl 0 g, h => answers (fn := Try.f24) (c := bodyOf Try.f24) (ntmps := 25) (results := [.tmp 2, .tmp 3]) [] (fun _ => LSpec.at [2, 3, 4, 8, 9, 10] [] (SM (.sl 0 g) 0) (OMg (.sl 0 g))) false Try.func24 (by kernel_rfl) (by kernel_rfl) (by kernel_rfl) (by kernel_rfl) (by simp) rfl
    (oneLoop (b := loopM) (by kernel_rfl) (loopMg_ok (.sl 0 g) h.1 h.2.1 0 (Nat.zero_le _))) (Meets.of (runM0 g) ⟨cl_iff.2 ⟨⟨.any _, .any _, .refl _, .refl _, .refl _, .refl _, trivial⟩, trivial⟩, .refl _, trivial⟩)
  | .sl (m + 1) g, h => answers (fn := Try.f24) (c := bodyOf Try.f24) (ntmps := 25) (results := [.tmp 2, .tmp 3]) [] (fun _ => LSpec.at [2, 3, 4, 8, 9, 10] [] (SM (.sl (m + 1) g) 0) (OMg (.sl (m + 1) g))) false Try.func24 (by kernel_rfl) (by kernel_rfl) (by kernel_rfl) (by kernel_rfl) (by simp) rfl
    (oneLoop (b := loopM) (by kernel_rfl) (loopMg_ok (.sl (m + 1) g) h.1 h.2.1 0 (Nat.zero_le _))) (Meets.of (runMg .nil m g) ⟨cl_iff.2 ⟨⟨.any _, .any _, .refl _, .refl _, .refl _, .refl _, trivial⟩, trivial⟩, .refl _, .refl _, trivial⟩)
  | .hs (m + 1) g, h => answers (fn := Try.f24) (c := bodyOf Try.f24) (ntmps := 25) (results := [.tmp 2, .tmp 3]) [] (fun _ => LSpec.at [2, 3, 4, 8, 9, 10] [] (SM (.hs (m + 1) g) 0) (OMg (.hs (m + 1) g))) false Try.func24 (by kernel_rfl) (by kernel_rfl) (by kernel_rfl) (by kernel_rfl) (by simp) rfl
    (oneLoop (b := loopM) (by kernel_rfl) (loopMg_ok (.hs (m + 1) g) h.1 h.2.1 0 (Nat.zero_le _))) (Meets.of (runMh m g) ⟨cl_iff.2 ⟨⟨.any _, .any _, .refl _, .refl _, .refl _, .refl _, trivial⟩, LeH.refl _⟩, .refl _, .refl _, .refl _, trivial⟩)
  | .hs 0 g, h => absurd (h.2.2 rfl) (Nat.lt_irrefl _)
theorem ansNumsBad (m : Nat) (g : Nat → Int) (b : Nat) (hb : b < m) (hok : ∀ j, j < b → okN (g j) = true) (hbad : okN (g b) = false) (hm : m ≤ 100000) : Answers Try.prog Γd 24 [.sl 1 m (i64F g)] [] (.tup [.v (.slice none 0 0), .v (.int .i64 10)]) [] [] :=
  answers (fn := Try.f24) (c := bodyOf Try.f24) (ntmps := 25) (results := [.tmp 2, .tmp 3]) [] (fun _ => LSpec.at [2, 3, 4, 8, 9, 10] [] (SM (.sl m g) 0) (OMb (.sl m g))) false Try.func24 (by kernel_rfl) (by kernel_rfl) (by kernel_rfl) (by kernel_rfl) (by simp) rfl
    (oneLoop (b := loopM) (by kernel_rfl) (loopMb_ok m g b hb hok hbad hm 0 (Nat.zero_le _))) (Meets.of (runMb m g) ⟨cl_iff.2 ⟨⟨.any _, .any _, .refl _, .refl _, .refl _, .refl _, trivial⟩, trivial⟩, .refl _, trivial⟩)
theorem ansNumsS (m : Nat) (g : Nat → Int) (h : (NA.sl (m + 1) g).ok) : Answers Try.prog Γd 24 [.sl 1 (m + 1) (i64F g)] [] (.tup [.hs 0 0 (catN g (m + 1)).size, .v (.int .i64 0)]) [] [.arr 1 (catN g (m + 1)).size (bsF (catN g (m + 1)))] := ansNums (.sl (m + 1) g) h
theorem ansNums0 (g : Nat → Int) (h : (NA.sl 0 g).ok) : Answers Try.prog Γd 24 [.sl 1 0 (i64F g)] [] (.tup [.v (.slice none 0 0), .v (.int .i64 0)]) [] [] := ansNums (.sl 0 g) h
theorem ansNumsN (h : NA.nil.ok) : Answers Try.prog Γd 24 [.v (.slice none 0 0)] [] (.tup [.v (.slice none 0 0), .v (.int .i64 0)]) [] [] := ansNums .nil h
theorem allBytes0 (n : Nat) (t : ByteArray) : (allBytes n fun j => [AV.v (Value.int IntKind.u8 (sbyte t ((0 : Nat) + j)))]) = true := by
  simp only [Nat.zero_add]; exact allBytes_bsF n t
theorem textOf0 (t : ByteArray) : (textOf t.size fun j => [AV.v (Value.int IntKind.u8 (sbyte t ((0 : Nat) + j)))]) = t := by
  simp only [Nat.zero_add]; exact textOf_bsF t
theorem okN_of {n : Nat} (h : n ≤ 4611686018427387904) : okN (n : Int) = true := by
  unfold okN
  rw [decide_eq_true (show (0 : Int) ≤ (n : Int) by omega), decide_eq_true (show (n : Int) ≤ 4611686018427387904 by omega)]; rfl
theorem okN_not {n : Int} (h : n < 0 ∨ 4611686018427387904 < n) : okN n = false := by
  cases hh : okN n with
  | false => rfl
  | true => obtain ⟨k, rfl, hk⟩ := okN_nat hh; omega
theorem guard3 {a b c : Bool} (h : (bif a then true else bif b then true else c) = false) : a = false ∧ b = false ∧ c = false := by
  cases a <;> cases b <;> cases c <;> simp at h ⊢
theorem LeL_self (xs : List AV) : LeL xs xs = True := eq_true (LeL.refl xs)
theorem LeH_self (xs : Heap) : LeH xs xs = True := eq_true (LeH.refl xs)
theorem cl_true : cl True = true := cl_iff.2 trivial
theorem allBytesF (n : Nat) (t : ByteArray) : (allBytes n fun j => [AV.v (Value.int IntKind.u8 (sbyte t j))]) = true := allBytes_bsF n t
theorem textOfF (t : ByteArray) : (textOf t.size fun j => [AV.v (Value.int IntKind.u8 (sbyte t j))]) = t := textOf_bsF t
theorem textOfF2 (a b : ByteArray) : (textOf (a.size + b.size) fun j => [AV.v (Value.int IntKind.u8 (sbyte (a ++ b) j))]) = a ++ b := by
  have := textOfF (a ++ b)
  rwa [ByteArray.size_append] at this
theorem textOfF3 (a b c : ByteArray) : (textOf (a.size + (b.size + c.size)) fun j => [AV.v (Value.int IntKind.u8 (sbyte (a ++ (b ++ c)) j))]) = a ++ (b ++ c) := by
  have := textOfF (a ++ (b ++ c))
  rwa [ByteArray.size_append, ByteArray.size_append] at this
end Go.Eng.Ce

/- cert: the bytes of a certificate: what the program answers. -/
namespace Go.Eng.Ce
open Go Go.Eng Go.Proofs
set_option linter.unusedSimpArgs false
set_option linter.unusedVariables false
def gC (x : Ct) : Nat → Int
  | 0 => x.k
  | 1 => x.b
  | 2 => x.v
  | 3 => x.r
  | 4 => x.s
  | 5 => x.h
  | 6 => x.a
  | _ => x.c
theorem ansNumsH (m : Nat) (g : Nat → Int) (h : (NA.hs (m + 1) g).ok) : Answers Try.prog Γd 24 [.hs 0 0 (m + 1)] [.arr 1 (m + 1) (i64F g)] (.tup [.hs 1 0 (catN g (m + 1)).size, .v (.int .i64 0)]) [some (.arr 1 (m + 1) (i64F g))] [.arr 1 (catN g (m + 1)).size (bsF (catN g (m + 1)))] := ansNums (.hs (m + 1) g) h
theorem runB0 (x : Ct) (hl : (NA.hs (0 + 1) (gC x)).ok) : bodyE (P := Try.prog) (Γ := Γd) [Z.c7, CT.at 24 (ansNumsH 0 (gC x) hl)] Lno false 46 [.tmp 2, .tmp 3] (bodyOf Try.f11) [x.av] [] =
  Tree.chk true
  (Tree.br (!decide ((bif (Ct.mk x.k x.b x.v x.r x.h x.a x.s x.c).ok then (0 : Int) else (110 : Int)) = (0 : Int)))
    (Tree.leaf
      (Ans.mk
        (AV.tup
          [AV.v (Value.slice none (0 : Nat) (0 : Nat)),
            AV.v
              (Value.int IntKind.i64 (bif (Ct.mk x.k x.b x.v x.r x.h x.a x.s x.c).ok then (0 : Int) else (110 : Int)))])
        []))
    (Tree.br (!decide (x.k = (0 : Int)))
      (Tree.chk true
        (Tree.br (decide (x.k = (2 : Int)))
          (Tree.chk true
            (Tree.chk
              (cl
                (LeL [AV.hs (0 : Nat) (0 : Nat) (8 : Nat)] [AV.hs (0 : Nat) (0 : Nat) (1 : Nat)] ∧
                  LeH
                    [some
                        (Blk.arr (1 : Nat) (8 : Nat) fun j =>
                          [AV.v
                              (Value.int IntKind.i64
                                (bif decide (j < (5 : Nat)) then
                                  bif decide ((0 : Nat) + j < (1 : Nat)) then
                                    bif ((0 : Nat) + ((0 : Nat) + j)).beq (0 : Nat) then x.k else (0 : Int)
                                  else
                                    bif ((0 : Nat) + ((0 : Nat) + j - (1 : Nat))).beq (0 : Nat) then x.b
                                    else
                                      bif ((0 : Nat) + ((0 : Nat) + j - (1 : Nat))).beq (1 : Nat) then x.v
                                      else
                                        bif ((0 : Nat) + ((0 : Nat) + j - (1 : Nat))).beq (2 : Nat) then x.r
                                        else
                                          bif ((0 : Nat) + ((0 : Nat) + j - (1 : Nat))).beq (3 : Nat) then
                                            IntKind.i64.wrap x.s
                                          else (0 : Int)
                                else
                                  bif ((0 : Nat) + (j - (5 : Nat))).beq (0 : Nat) then x.h
                                  else
                                    bif ((0 : Nat) + (j - (5 : Nat))).beq (1 : Nat) then x.a
                                    else
                                      bif ((0 : Nat) + (j - (5 : Nat))).beq (2 : Nat) then IntKind.i64.wrap x.c
                                      else (0 : Int)))])]
                    [some (Blk.arr (1 : Nat) (1 : Nat) fun j => [AV.v (Value.int IntKind.i64 (gC x j))])]))
              (Tree.leaf
                (Ans.mk
                  (AV.tup
                    [AV.hs (0 : Nat) (0 : Nat) (catN (gC x) (1 : Nat)).size, AV.v (Value.int IntKind.i64 (0 : Int))])
                  [some
                      (Blk.arr (1 : Nat) (catN (gC x) (1 : Nat)).size fun j =>
                        [AV.v (Value.int IntKind.u8 (sbyte (catN (gC x) (1 : Nat)) j))])]))))
          (Tree.chk
            (cl
              (LeL [AV.hs (0 : Nat) (0 : Nat) (5 : Nat)] [AV.hs (0 : Nat) (0 : Nat) (1 : Nat)] ∧
                LeH
                  [some
                      (Blk.arr (1 : Nat) (5 : Nat) fun j =>
                        [AV.v
                            (Value.int IntKind.i64
                              (bif decide (j < (1 : Nat)) then bif ((0 : Nat) + j).beq (0 : Nat) then x.k else (0 : Int)
                              else
                                bif ((0 : Nat) + (j - (1 : Nat))).beq (0 : Nat) then x.b
                                else
                                  bif ((0 : Nat) + (j - (1 : Nat))).beq (1 : Nat) then x.v
                                  else
                                    bif ((0 : Nat) + (j - (1 : Nat))).beq (2 : Nat) then x.r
                                    else
                                      bif ((0 : Nat) + (j - (1 : Nat))).beq (3 : Nat) then IntKind.i64.wrap x.s
                                      else (0 : Int)))])]
                  [some (Blk.arr (1 : Nat) (1 : Nat) fun j => [AV.v (Value.int IntKind.i64 (gC x j))])]))
            (Tree.leaf
              (Ans.mk
                (AV.tup
                  [AV.hs (0 : Nat) (0 : Nat) (catN (gC x) (1 : Nat)).size, AV.v (Value.int IntKind.i64 (0 : Int))])
                [some
                    (Blk.arr (1 : Nat) (catN (gC x) (1 : Nat)).size fun j =>
                      [AV.v (Value.int IntKind.u8 (sbyte (catN (gC x) (1 : Nat)) j))])])))))
      (Tree.br (decide (x.k = (2 : Int)))
        (Tree.chk true
          (Tree.chk
            (cl
              (LeL [AV.hs (0 : Nat) (0 : Nat) (4 : Nat)] [AV.hs (0 : Nat) (0 : Nat) (1 : Nat)] ∧
                LeH
                  [some
                      (Blk.arr (1 : Nat) (4 : Nat) fun j =>
                        [AV.v
                            (Value.int IntKind.i64
                              (bif decide (j < (1 : Nat)) then bif ((0 : Nat) + j).beq (0 : Nat) then x.k else (0 : Int)
                              else
                                bif ((0 : Nat) + (j - (1 : Nat))).beq (0 : Nat) then x.h
                                else
                                  bif ((0 : Nat) + (j - (1 : Nat))).beq (1 : Nat) then x.a
                                  else
                                    bif ((0 : Nat) + (j - (1 : Nat))).beq (2 : Nat) then IntKind.i64.wrap x.c
                                    else (0 : Int)))])]
                  [some (Blk.arr (1 : Nat) (1 : Nat) fun j => [AV.v (Value.int IntKind.i64 (gC x j))])]))
            (Tree.leaf
              (Ans.mk
                (AV.tup
                  [AV.hs (0 : Nat) (0 : Nat) (catN (gC x) (1 : Nat)).size, AV.v (Value.int IntKind.i64 (0 : Int))])
                [some
                    (Blk.arr (1 : Nat) (catN (gC x) (1 : Nat)).size fun j =>
                      [AV.v (Value.int IntKind.u8 (sbyte (catN (gC x) (1 : Nat)) j))])]))))
        (Tree.chk
          (cl
            (LeL [AV.hs (0 : Nat) (0 : Nat) (1 : Nat)] [AV.hs (0 : Nat) (0 : Nat) (1 : Nat)] ∧
              LeH
                [some
                    (Blk.arr (1 : Nat) (1 : Nat) fun x_1 =>
                      [AV.v (Value.int IntKind.i64 (bif x_1.beq (0 : Nat) then x.k else (0 : Int)))])]
                [some (Blk.arr (1 : Nat) (1 : Nat) fun j => [AV.v (Value.int IntKind.i64 (gC x j))])]))
          (Tree.leaf
            (Ans.mk
              (AV.tup [AV.hs (0 : Nat) (0 : Nat) (catN (gC x) (1 : Nat)).size, AV.v (Value.int IntKind.i64 (0 : Int))])
              [some
                  (Blk.arr (1 : Nat) (catN (gC x) (1 : Nat)).size fun j =>
                    [AV.v (Value.int IntKind.u8 (sbyte (catN (gC x) (1 : Nat)) j))])])))))) := by kernel_rfl
theorem runB4 (x : Ct) (hl : (NA.hs (4 + 1) (gC x)).ok) : bodyE (P := Try.prog) (Γ := Γd) [Z.c7, CT.at 24 (ansNumsH 4 (gC x) hl)] Lno false 46 [.tmp 2, .tmp 3] (bodyOf Try.f11) [x.av] [] =
  Tree.chk true
  (Tree.br (!decide ((bif (Ct.mk x.k x.b x.v x.r x.h x.a x.s x.c).ok then (0 : Int) else (110 : Int)) = (0 : Int)))
    (Tree.leaf
      (Ans.mk
        (AV.tup
          [AV.v (Value.slice none (0 : Nat) (0 : Nat)),
            AV.v
              (Value.int IntKind.i64 (bif (Ct.mk x.k x.b x.v x.r x.h x.a x.s x.c).ok then (0 : Int) else (110 : Int)))])
        []))
    (Tree.br (!decide (x.k = (0 : Int)))
      (Tree.chk true
        (Tree.br (decide (x.k = (2 : Int)))
          (Tree.chk true
            (Tree.chk
              (cl
                (LeL [AV.hs (0 : Nat) (0 : Nat) (8 : Nat)] [AV.hs (0 : Nat) (0 : Nat) (5 : Nat)] ∧
                  LeH
                    [some
                        (Blk.arr (1 : Nat) (8 : Nat) fun j =>
                          [AV.v
                              (Value.int IntKind.i64
                                (bif decide (j < (5 : Nat)) then
                                  bif decide ((0 : Nat) + j < (1 : Nat)) then
                                    bif ((0 : Nat) + ((0 : Nat) + j)).beq (0 : Nat) then x.k else (0 : Int)
                                  else
                                    bif ((0 : Nat) + ((0 : Nat) + j - (1 : Nat))).beq (0 : Nat) then x.b
                                    else
                                      bif ((0 : Nat) + ((0 : Nat) + j - (1 : Nat))).beq (1 : Nat) then x.v
                                      else
                                        bif ((0 : Nat) + ((0 : Nat) + j - (1 : Nat))).beq (2 : Nat) then x.r
                                        else
                                          bif ((0 : Nat) + ((0 : Nat) + j - (1 : Nat))).beq (3 : Nat) then
                                            IntKind.i64.wrap x.s
                                          else (0 : Int)
                                else
                                  bif ((0 : Nat) + (j - (5 : Nat))).beq (0 : Nat) then x.h
                                  else
                                    bif ((0 : Nat) + (j - (5 : Nat))).beq (1 : Nat) then x.a
                                    else
                                      bif ((0 : Nat) + (j - (5 : Nat))).beq (2 : Nat) then IntKind.i64.wrap x.c
                                      else (0 : Int)))])]
                    [some (Blk.arr (1 : Nat) (5 : Nat) fun j => [AV.v (Value.int IntKind.i64 (gC x j))])]))
              (Tree.leaf
                (Ans.mk
                  (AV.tup
                    [AV.hs (0 : Nat) (0 : Nat) (catN (gC x) (5 : Nat)).size, AV.v (Value.int IntKind.i64 (0 : Int))])
                  [some
                      (Blk.arr (1 : Nat) (catN (gC x) (5 : Nat)).size fun j =>
                        [AV.v (Value.int IntKind.u8 (sbyte (catN (gC x) (5 : Nat)) j))])]))))
          (Tree.chk
            (cl
              (LeL [AV.hs (0 : Nat) (0 : Nat) (5 : Nat)] [AV.hs (0 : Nat) (0 : Nat) (5 : Nat)] ∧
                LeH
                  [some
                      (Blk.arr (1 : Nat) (5 : Nat) fun j =>
                        [AV.v
                            (Value.int IntKind.i64
                              (bif decide (j < (1 : Nat)) then bif ((0 : Nat) + j).beq (0 : Nat) then x.k else (0 : Int)
                              else
                                bif ((0 : Nat) + (j - (1 : Nat))).beq (0 : Nat) then x.b
                                else
                                  bif ((0 : Nat) + (j - (1 : Nat))).beq (1 : Nat) then x.v
                                  else
                                    bif ((0 : Nat) + (j - (1 : Nat))).beq (2 : Nat) then x.r
                                    else
                                      bif ((0 : Nat) + (j - (1 : Nat))).beq (3 : Nat) then IntKind.i64.wrap x.s
                                      else (0 : Int)))])]
                  [some (Blk.arr (1 : Nat) (5 : Nat) fun j => [AV.v (Value.int IntKind.i64 (gC x j))])]))
            (Tree.leaf
              (Ans.mk
                (AV.tup
                  [AV.hs (0 : Nat) (0 : Nat) (catN (gC x) (5 : Nat)).size, AV.v (Value.int IntKind.i64 (0 : Int))])
                [some
                    (Blk.arr (1 : Nat) (catN (gC x) (5 : Nat)).size fun j =>
                      [AV.v (Value.int IntKind.u8 (sbyte (catN (gC x) (5 : Nat)) j))])])))))
      (Tree.br (decide (x.k = (2 : Int)))
        (Tree.chk true
          (Tree.chk
            (cl
              (LeL [AV.hs (0 : Nat) (0 : Nat) (4 : Nat)] [AV.hs (0 : Nat) (0 : Nat) (5 : Nat)] ∧
                LeH
                  [some
                      (Blk.arr (1 : Nat) (4 : Nat) fun j =>
                        [AV.v
                            (Value.int IntKind.i64
                              (bif decide (j < (1 : Nat)) then bif ((0 : Nat) + j).beq (0 : Nat) then x.k else (0 : Int)
                              else
                                bif ((0 : Nat) + (j - (1 : Nat))).beq (0 : Nat) then x.h
                                else
                                  bif ((0 : Nat) + (j - (1 : Nat))).beq (1 : Nat) then x.a
                                  else
                                    bif ((0 : Nat) + (j - (1 : Nat))).beq (2 : Nat) then IntKind.i64.wrap x.c
                                    else (0 : Int)))])]
                  [some (Blk.arr (1 : Nat) (5 : Nat) fun j => [AV.v (Value.int IntKind.i64 (gC x j))])]))
            (Tree.leaf
              (Ans.mk
                (AV.tup
                  [AV.hs (0 : Nat) (0 : Nat) (catN (gC x) (5 : Nat)).size, AV.v (Value.int IntKind.i64 (0 : Int))])
                [some
                    (Blk.arr (1 : Nat) (catN (gC x) (5 : Nat)).size fun j =>
                      [AV.v (Value.int IntKind.u8 (sbyte (catN (gC x) (5 : Nat)) j))])]))))
        (Tree.chk
          (cl
            (LeL [AV.hs (0 : Nat) (0 : Nat) (1 : Nat)] [AV.hs (0 : Nat) (0 : Nat) (5 : Nat)] ∧
              LeH
                [some
                    (Blk.arr (1 : Nat) (1 : Nat) fun x_1 =>
                      [AV.v (Value.int IntKind.i64 (bif x_1.beq (0 : Nat) then x.k else (0 : Int)))])]
                [some (Blk.arr (1 : Nat) (5 : Nat) fun j => [AV.v (Value.int IntKind.i64 (gC x j))])]))
          (Tree.leaf
            (Ans.mk
              (AV.tup [AV.hs (0 : Nat) (0 : Nat) (catN (gC x) (5 : Nat)).size, AV.v (Value.int IntKind.i64 (0 : Int))])
              [some
                  (Blk.arr (1 : Nat) (catN (gC x) (5 : Nat)).size fun j =>
                    [AV.v (Value.int IntKind.u8 (sbyte (catN (gC x) (5 : Nat)) j))])])))))) := by kernel_rfl
theorem runB7 (x : Ct) (hl : (NA.hs (7 + 1) (gC x)).ok) : bodyE (P := Try.prog) (Γ := Γd) [Z.c7, CT.at 24 (ansNumsH 7 (gC x) hl)] Lno false 46 [.tmp 2, .tmp 3] (bodyOf Try.f11) [x.av] [] =
  Tree.chk true
  (Tree.br (!decide ((bif (Ct.mk x.k x.b x.v x.r x.h x.a x.s x.c).ok then (0 : Int) else (110 : Int)) = (0 : Int)))
    (Tree.leaf
      (Ans.mk
        (AV.tup
          [AV.v (Value.slice none (0 : Nat) (0 : Nat)),
            AV.v
              (Value.int IntKind.i64 (bif (Ct.mk x.k x.b x.v x.r x.h x.a x.s x.c).ok then (0 : Int) else (110 : Int)))])
        []))
    (Tree.br (!decide (x.k = (0 : Int)))
      (Tree.chk true
        (Tree.br (decide (x.k = (2 : Int)))
          (Tree.chk true
            (Tree.chk
              (cl
                (LeL [AV.hs (0 : Nat) (0 : Nat) (8 : Nat)] [AV.hs (0 : Nat) (0 : Nat) (8 : Nat)] ∧
                  LeH
                    [some
                        (Blk.arr (1 : Nat) (8 : Nat) fun j =>
                          [AV.v
                              (Value.int IntKind.i64
                                (bif decide (j < (5 : Nat)) then
                                  bif decide ((0 : Nat) + j < (1 : Nat)) then
                                    bif ((0 : Nat) + ((0 : Nat) + j)).beq (0 : Nat) then x.k else (0 : Int)
                                  else
                                    bif ((0 : Nat) + ((0 : Nat) + j - (1 : Nat))).beq (0 : Nat) then x.b
                                    else
                                      bif ((0 : Nat) + ((0 : Nat) + j - (1 : Nat))).beq (1 : Nat) then x.v
                                      else
                                        bif ((0 : Nat) + ((0 : Nat) + j - (1 : Nat))).beq (2 : Nat) then x.r
                                        else
                                          bif ((0 : Nat) + ((0 : Nat) + j - (1 : Nat))).beq (3 : Nat) then
                                            IntKind.i64.wrap x.s
                                          else (0 : Int)
                                else
                                  bif ((0 : Nat) + (j - (5 : Nat))).beq (0 : Nat) then x.h
                                  else
                                    bif ((0 : Nat) + (j - (5 : Nat))).beq (1 : Nat) then x.a
                                    else
                                      bif ((0 : Nat) + (j - (5 : Nat))).beq (2 : Nat) then IntKind.i64.wrap x.c
                                      else (0 : Int)))])]
                    [some (Blk.arr (1 : Nat) (8 : Nat) fun j => [AV.v (Value.int IntKind.i64 (gC x j))])]))
              (Tree.leaf
                (Ans.mk
                  (AV.tup
                    [AV.hs (0 : Nat) (0 : Nat) (catN (gC x) (8 : Nat)).size, AV.v (Value.int IntKind.i64 (0 : Int))])
                  [some
                      (Blk.arr (1 : Nat) (catN (gC x) (8 : Nat)).size fun j =>
                        [AV.v (Value.int IntKind.u8 (sbyte (catN (gC x) (8 : Nat)) j))])]))))
          (Tree.chk
            (cl
              (LeL [AV.hs (0 : Nat) (0 : Nat) (5 : Nat)] [AV.hs (0 : Nat) (0 : Nat) (8 : Nat)] ∧
                LeH
                  [some
                      (Blk.arr (1 : Nat) (5 : Nat) fun j =>
                        [AV.v
                            (Value.int IntKind.i64
                              (bif decide (j < (1 : Nat)) then bif ((0 : Nat) + j).beq (0 : Nat) then x.k else (0 : Int)
                              else
                                bif ((0 : Nat) + (j - (1 : Nat))).beq (0 : Nat) then x.b
                                else
                                  bif ((0 : Nat) + (j - (1 : Nat))).beq (1 : Nat) then x.v
                                  else
                                    bif ((0 : Nat) + (j - (1 : Nat))).beq (2 : Nat) then x.r
                                    else
                                      bif ((0 : Nat) + (j - (1 : Nat))).beq (3 : Nat) then IntKind.i64.wrap x.s
                                      else (0 : Int)))])]
                  [some (Blk.arr (1 : Nat) (8 : Nat) fun j => [AV.v (Value.int IntKind.i64 (gC x j))])]))
            (Tree.leaf
              (Ans.mk
                (AV.tup
                  [AV.hs (0 : Nat) (0 : Nat) (catN (gC x) (8 : Nat)).size, AV.v (Value.int IntKind.i64 (0 : Int))])
                [some
                    (Blk.arr (1 : Nat) (catN (gC x) (8 : Nat)).size fun j =>
                      [AV.v (Value.int IntKind.u8 (sbyte (catN (gC x) (8 : Nat)) j))])])))))
      (Tree.br (decide (x.k = (2 : Int)))
        (Tree.chk true
          (Tree.chk
            (cl
              (LeL [AV.hs (0 : Nat) (0 : Nat) (4 : Nat)] [AV.hs (0 : Nat) (0 : Nat) (8 : Nat)] ∧
                LeH
                  [some
                      (Blk.arr (1 : Nat) (4 : Nat) fun j =>
                        [AV.v
                            (Value.int IntKind.i64
                              (bif decide (j < (1 : Nat)) then bif ((0 : Nat) + j).beq (0 : Nat) then x.k else (0 : Int)
                              else
                                bif ((0 : Nat) + (j - (1 : Nat))).beq (0 : Nat) then x.h
                                else
                                  bif ((0 : Nat) + (j - (1 : Nat))).beq (1 : Nat) then x.a
                                  else
                                    bif ((0 : Nat) + (j - (1 : Nat))).beq (2 : Nat) then IntKind.i64.wrap x.c
                                    else (0 : Int)))])]
                  [some (Blk.arr (1 : Nat) (8 : Nat) fun j => [AV.v (Value.int IntKind.i64 (gC x j))])]))
            (Tree.leaf
              (Ans.mk
                (AV.tup
                  [AV.hs (0 : Nat) (0 : Nat) (catN (gC x) (8 : Nat)).size, AV.v (Value.int IntKind.i64 (0 : Int))])
                [some
                    (Blk.arr (1 : Nat) (catN (gC x) (8 : Nat)).size fun j =>
                      [AV.v (Value.int IntKind.u8 (sbyte (catN (gC x) (8 : Nat)) j))])]))))
        (Tree.chk
          (cl
            (LeL [AV.hs (0 : Nat) (0 : Nat) (1 : Nat)] [AV.hs (0 : Nat) (0 : Nat) (8 : Nat)] ∧
              LeH
                [some
                    (Blk.arr (1 : Nat) (1 : Nat) fun x_1 =>
                      [AV.v (Value.int IntKind.i64 (bif x_1.beq (0 : Nat) then x.k else (0 : Int)))])]
                [some (Blk.arr (1 : Nat) (8 : Nat) fun j => [AV.v (Value.int IntKind.i64 (gC x j))])]))
          (Tree.leaf
            (Ans.mk
              (AV.tup [AV.hs (0 : Nat) (0 : Nat) (catN (gC x) (8 : Nat)).size, AV.v (Value.int IntKind.i64 (0 : Int))])
              [some
                  (Blk.arr (1 : Nat) (catN (gC x) (8 : Nat)).size fun j =>
                    [AV.v (Value.int IntKind.u8 (sbyte (catN (gC x) (8 : Nat)) j))])])))))) := by kernel_rfl
theorem runBx (x : Ct) : bodyE (P := Try.prog) (Γ := Γd) [Z.c7] Lno false 46 [.tmp 2, .tmp 3] (bodyOf Try.f11) [x.av] [] =
  Tree.chk true
  (Tree.br (!decide ((bif (Ct.mk x.k x.b x.v x.r x.h x.a x.s x.c).ok then (0 : Int) else (110 : Int)) = (0 : Int)))
    (Tree.leaf
      (Ans.mk
        (AV.tup
          [AV.v (Value.slice none (0 : Nat) (0 : Nat)),
            AV.v
              (Value.int IntKind.i64 (bif (Ct.mk x.k x.b x.v x.r x.h x.a x.s x.c).ok then (0 : Int) else (110 : Int)))])
        []))
    (Tree.br (!decide (x.k = (0 : Int)))
      (Tree.chk true (Tree.br (decide (x.k = (2 : Int))) (Tree.chk true Tree.fail) Tree.fail))
      (Tree.br (decide (x.k = (2 : Int))) (Tree.chk true Tree.fail) Tree.fail))) := by kernel_rfl
def Ct.wide (x : Ct) : Prop := 0 ≤ x.s ∧ x.s < 4294967296 ∧ 0 ≤ x.c ∧ x.c < 4294967296
theorem okN_le {n : Int} (h : 0 ≤ n) (h' : n ≤ 4611686018427387904) : okN n = true := by
  unfold okN; rw [decide_eq_true h, decide_eq_true h']; rfl
theorem ok_kinds {x : Ct} (h : x.ok = true) : x.k = 0 ∨ (x.k = 1 ∧ x.wf = true ∧ x.h = 0 ∧ x.a = 0 ∧ x.c = 0) ∨ (x.k = 2 ∧ x.wf = true ∧ 1 ≤ x.h ∧ x.h ≤ 3 ∧ 0 ≤ x.a ∧ x.a ≤ 9) := by
  unfold Ct.ok at h
  by_cases h0 : x.k = 0
  · exact .inl h0
  · rw [decide_eq_false h0] at h
    by_cases h1 : x.k = 1
    · rw [decide_eq_true h1] at h
      simp only [cond_true, cond_false, Bool.and_eq_true, decide_eq_true_eq] at h
      exact .inr (.inl ⟨h1, h.1.1.1, h.1.1.2, h.1.2, h.2⟩)
    · rw [decide_eq_false h1] at h
      by_cases h2 : x.k = 2
      · rw [decide_eq_true h2] at h
        simp only [cond_true, cond_false, Bool.and_eq_true, decide_eq_true_eq] at h
        exact .inr (.inr ⟨h2, h.1.1.1.1.1, h.1.1.1.1.2, h.1.1.1.2, h.1.1.2, h.1.2⟩)
      · rw [decide_eq_false h2] at h; simp at h
theorem wf_nums {x : Ct} (h : x.wf = true) : 1 ≤ x.b ∧ x.b ≤ 2147483647 ∧ 1 ≤ x.v ∧ x.v ≤ 1048576 ∧ 1 ≤ x.r ∧ x.r ≤ 1073741824 := by
  simp only [Ct.wf, Bool.and_eq_true, decide_eq_true_eq] at h
  exact ⟨h.1.1.1.1.1.1.1, h.1.1.1.1.1.1.2, h.1.1.1.1.1.2, h.1.1.1.1.2, h.1.1.1.2, h.1.1.2⟩
theorem na0 {x : Ct} (h : x.k = 0) : (NA.hs (0 + 1) (gC x)).ok := ⟨fun j hj => match j, hj with | 0, _ => okN_le (by show 0 ≤ x.k; omega) (by show x.k ≤ _; omega) | j + 1, h => absurd h (by show ¬ j + 1 < 0 + 1; omega), by show 0 + 1 ≤ 100000; omega, fun _ => by show 0 < 0 + 1; omega⟩
theorem na4 {x : Ct} (hx : x.wide) (h : x.k = 1) (hw : x.wf = true) : (NA.hs (4 + 1) (gC x)).ok := by
  obtain ⟨b1, b2, v1, v2, r1, r2⟩ := wf_nums hw
  obtain ⟨s1, s2, _, _⟩ := hx
  exact ⟨fun j hj => match j, hj with
    | 0, _ => okN_le (by show 0 ≤ x.k; omega) (by show x.k ≤ _; omega)
    | 1, _ => okN_le (by show 0 ≤ x.b; omega) (by show x.b ≤ _; omega)
    | 2, _ => okN_le (by show 0 ≤ x.v; omega) (by show x.v ≤ _; omega)
    | 3, _ => okN_le (by show 0 ≤ x.r; omega) (by show x.r ≤ _; omega)
    | 4, _ => okN_le (by show 0 ≤ x.s; omega) (by show x.s ≤ _; omega)
    | j + 5, h => absurd h (by show ¬ j + 5 < 4 + 1; omega), by show 4 + 1 ≤ 100000; omega, fun _ => by show 0 < 4 + 1; omega⟩
theorem na7 {x : Ct} (hx : x.wide) (h : x.k = 2) (hw : x.wf = true) (h1 : 1 ≤ x.h) (h2 : x.h ≤ 3) (h3 : 0 ≤ x.a) (h4 : x.a ≤ 9) : (NA.hs (7 + 1) (gC x)).ok := by
  obtain ⟨b1, b2, v1, v2, r1, r2⟩ := wf_nums hw
  obtain ⟨s1, s2, c1, c2⟩ := hx
  exact ⟨fun j hj => match j, hj with
    | 0, _ => okN_le (by show 0 ≤ x.k; omega) (by show x.k ≤ _; omega)
    | 1, _ => okN_le (by show 0 ≤ x.b; omega) (by show x.b ≤ _; omega)
    | 2, _ => okN_le (by show 0 ≤ x.v; omega) (by show x.v ≤ _; omega)
    | 3, _ => okN_le (by show 0 ≤ x.r; omega) (by show x.r ≤ _; omega)
    | 4, _ => okN_le (by show 0 ≤ x.s; omega) (by show x.s ≤ _; omega)
    | 5, _ => okN_le (by show 0 ≤ x.h; omega) (by show x.h ≤ _; omega)
    | 6, _ => okN_le (by show 0 ≤ x.a; omega) (by show x.a ≤ _; omega)
    | 7, _ => okN_le (by show 0 ≤ x.c; omega) (by show x.c ≤ _; omega)
    | j + 8, h => absurd h (by show ¬ j + 8 < 7 + 1; omega), by show 7 + 1 ≤ 100000; omega, fun _ => by show 0 < 7 + 1; omega⟩
theorem wrapS {n : Int} (h : 0 ≤ n) (h' : n < 4294967296) : IntKind.i64.wrap n = n := by rw [wrap64E]; omega
def AnsC (x : Ct) (m : Nat) : Prop := Answers Try.prog Γd 11 [x.av] [] (.tup [.hs 0 0 (catN (gC x) m).size, .v (.int .i64 0)]) [] [.arr 1 (catN (gC x) m).size (bsF (catN (gC x) m))]
theorem okCond {x : Ct} (h : x.ok = true) : (!decide ((bif (Ct.mk x.k x.b x.v x.r x.h x.a x.s x.c).ok then (0 : Int) else (110 : Int)) = (0 : Int))) = false := by
  rw [show (Ct.mk x.k x.b x.v x.r x.h x.a x.s x.c).ok = true from h]; rfl
theorem ansC0 {x : Ct} (hok : x.ok = true) (h : x.k = 0) : AnsC x 1 := answers (fn := Try.f11) (c := bodyOf Try.f11) (ntmps := 46) (results := [.tmp 2, .tmp 3]) [Z.c7, CT.at 24 (ansNumsH 0 (gC x) (na0 h))] Lno false Try.func11 (by kernel_rfl) (by kernel_rfl) (by kernel_rfl) (by kernel_rfl) (by simp) rfl (noLoops (by kernel_rfl)) (by
  refine Meets.of (runB0 x (na0 h)) ⟨rfl, ?_⟩
  rw [okCond hok, decide_eq_true h, decide_eq_false (show ¬ x.k = 2 by omega)]
  exact ⟨fun h => by simp at h, fun _ => ⟨fun h => by simp at h, fun _ => ⟨fun h => by simp at h, fun _ => ⟨cl_iff.2 ⟨LeL.refl _, .arr rfl (fun j hj => match j, hj with | 0, _ => rfl | j + 1, h => absurd h (by omega)) (fun _ => rfl), trivial⟩, .refl _, .refl _, trivial⟩⟩⟩⟩)
theorem ansC4 {x : Ct} (hx : x.wide) (hok : x.ok = true) (h : x.k = 1) (hw : x.wf = true) : AnsC x 5 := answers (fn := Try.f11) (c := bodyOf Try.f11) (ntmps := 46) (results := [.tmp 2, .tmp 3]) [Z.c7, CT.at 24 (ansNumsH 4 (gC x) (na4 hx h hw))] Lno false Try.func11 (by kernel_rfl) (by kernel_rfl) (by kernel_rfl) (by kernel_rfl) (by simp) rfl (noLoops (by kernel_rfl)) (by
  have w1 := wrapS hx.1 hx.2.1
  refine Meets.of (runB4 x (na4 hx h hw)) ⟨rfl, ?_⟩
  rw [okCond hok, decide_eq_false (show ¬ x.k = 0 by omega), decide_eq_false (show ¬ x.k = 2 by omega)]
  exact ⟨fun h => by simp at h, fun _ => ⟨fun _ => ⟨rfl, fun h => by simp at h, fun _ => ⟨cl_iff.2 ⟨LeL.refl _, .arr rfl (fun j hj => match j, hj with | 0, _ => rfl | 1, _ => rfl | 2, _ => rfl | 3, _ => rfl | 4, _ => by show [AV.v (Value.int IntKind.i64 (IntKind.i64.wrap x.s))] = [AV.v (Value.int IntKind.i64 x.s)]; rw [w1] | j + 5, h => absurd h (by omega)) (fun _ => rfl), trivial⟩, .refl _, .refl _, trivial⟩⟩, fun h => by simp at h⟩⟩)
theorem ansC7 {x : Ct} (hx : x.wide) (hok : x.ok = true) (h : x.k = 2) (hw : x.wf = true) (h1 : 1 ≤ x.h) (h2 : x.h ≤ 3) (h3 : 0 ≤ x.a) (h4 : x.a ≤ 9) : AnsC x 8 := answers (fn := Try.f11) (c := bodyOf Try.f11) (ntmps := 46) (results := [.tmp 2, .tmp 3]) [Z.c7, CT.at 24 (ansNumsH 7 (gC x) (na7 hx h hw h1 h2 h3 h4))] Lno false Try.func11 (by kernel_rfl) (by kernel_rfl) (by kernel_rfl) (by kernel_rfl) (by simp) rfl (noLoops (by kernel_rfl)) (by
  have w1 := wrapS hx.1 hx.2.1
  have w2 := wrapS hx.2.2.1 hx.2.2.2
  refine Meets.of (runB7 x (na7 hx h hw h1 h2 h3 h4)) ⟨rfl, ?_⟩
  rw [okCond hok, decide_eq_false (show ¬ x.k = 0 by omega), decide_eq_true h]
  exact ⟨fun h => by simp at h, fun _ => ⟨fun _ => ⟨rfl, fun _ => ⟨rfl, cl_iff.2 ⟨LeL.refl _, .arr rfl (fun j hj => match j, hj with | 0, _ => rfl | 1, _ => rfl | 2, _ => rfl | 3, _ => rfl | 4, _ => by show [AV.v (Value.int IntKind.i64 (IntKind.i64.wrap x.s))] = [AV.v (Value.int IntKind.i64 x.s)]; rw [w1] | 5, _ => rfl | 6, _ => rfl | 7, _ => by show [AV.v (Value.int IntKind.i64 (IntKind.i64.wrap x.c))] = [AV.v (Value.int IntKind.i64 x.c)]; rw [w2] | j + 8, h => absurd h (by omega)) (fun _ => rfl), trivial⟩, .refl _, .refl _, trivial⟩, fun h => by simp at h⟩, fun h => by simp at h⟩⟩)
theorem ansCx {x : Ct} (hok : x.ok = false) : Answers Try.prog Γd 11 [x.av] [] (.tup [.v (.slice none 0 0), .v (.int .i64 110)]) [] [] := answers (fn := Try.f11) (c := bodyOf Try.f11) (ntmps := 46) (results := [.tmp 2, .tmp 3]) [Z.c7] Lno false Try.func11 (by kernel_rfl) (by kernel_rfl) (by kernel_rfl) (by kernel_rfl) (by simp) rfl (noLoops (by kernel_rfl)) (by
  refine Meets.of (runBx x) ⟨rfl, ?_⟩
  rw [show (Ct.mk x.k x.b x.v x.r x.h x.a x.s x.c).ok = false from hok]
  exact ⟨fun _ => ⟨.refl _, trivial⟩, fun h => by simp at h⟩)
end Go.Eng.Ce

/- A slice of bytes as an argument. -/
namespace Go.Eng
open Go Go.ChangeShapes
set_option linter.unusedSimpArgs false
set_option linter.unusedVariables false
theorem textOf_size (n : Nat) (f : Nat → List AV) : (textOf n f).size = n := by
  unfold textOf
  show ((List.range n).map _).toArray.size = n
  simp
theorem sbyte_textOf {n j : Nat} {f : Nat → List AV} {v : Int} (hj : j < n) (hf : f j = [.v (.int .u8 v)]) (h : 0 ≤ v) (h' : v < 256) : sbyte (textOf n f) j = v := by
  unfold textOf sbyte
  simp only [List.getElem?_toArray, List.getElem?_map, List.getElem?_range hj, Option.map_some, Option.getD_some, hf, byteIn]
  simp
  omega
/-- a law's proof at one input, with the summaries that it uses -/
structure LawOK (P : Program) (Γ : Nat → AV) (ntmps : Nat) (results : List ResultVar) (c : Code) (args : List AV) : Prop where
  ok : ∃ (T : List (CT P Γ)) (L : Nat → LSpec) (ip : Bool), (∀ (j : Nat) (b : Code), (loopBodies c)[j]? = some b → LoopOK P Γ 0 ntmps b (L j)) ∧ Right (bodyE T L ip ntmps results c args [])
theorem LawOK.mk' {P : Program} {Γ : Nat → AV} {ntmps : Nat} {results : List ResultVar} {c : Code} {args : List AV} {T : List (CT P Γ)} {L : Nat → LSpec} {ip : Bool} (hL : ∀ (j : Nat) (b : Code), (loopBodies c)[j]? = some b → LoopOK P Γ 0 ntmps b (L j))
    (h : Right (bodyE T L ip ntmps results c args [])) : LawOK P Γ ntmps results c args := ⟨T, L, ip, hL, h⟩
noncomputable def CT.lawE {P : Program} {Γ : Nat → AV} {X : Type} (A : X → List AV) (pre : X → Prop) (f : FuncId) (fn : Func) (c : Code) (ntmps : Nat) (results : List ResultVar) (hf : P.funcs[f]? = some fn) (hb : fn.body = some c) (hr : fn.results.toList = results)
    (hnt : fn.ntmps = ntmps) (hn : (fn.name == "runtime.NumGoroutine") = false) (hsz : ∀ x, pre x → (A x).length ≤ ntmps) (hs : ∀ x, pre x → LawOK P Γ ntmps results c (A x)) : CT P Γ where
  f := f
  spec := lawSpec A pre
  enters := callFunc_enters hf (by rw [hb]; rfl) hn
  ok := fun args Hin r h => by
    obtain ⟨rfl, rfl, x, hp, rfl⟩ := lawSpec_get h
    obtain ⟨T, L, ip, hL, h⟩ := (hs x hp).ok
    subst hr; subst hnt
    exact contract_of (T := T) (ip := ip) hf hb L hL (hsz x hp) h.ok
/-- bytes as an argument: nil, or a slice -/
def bArg : Option ByteArray → AV
  | none => .v (.slice none 0 0)
  | some t => .sl 1 t.size (bsF t)
section
variable {H : Type} {enc : TypeId × Value → H} {P : Program} {w : World} {base : Nat} {sp : Nat → Bool} {held : Bool}
theorem V0.bytes {σ : Store} {m : Nat} {g : Nat → Int} {v : Value} (h : V0 σ (.sl 1 m fun i => [.v (.int .u8 (g i))]) v) (hw : ∀ i, i < m → 0 ≤ g i ∧ g i < 256) :
    V0 σ (bArg (some (textOf m fun i => [.v (.int .u8 (g i))]))) v := by
  have hs := textOf_size m fun i => [AV.v (.int .u8 (g i))]
  show V0 σ (.sl 1 _ _) v
  rw [hs]
  cases h with
  | sl _ _ _ ad cap ys hsp hn hl hm ho hv =>
    refine .sl 1 m _ ad cap ys hsp hn (fun _ => rfl) (fun e j c he hc => ?_) (fun e j c he hc => ?_) (fun e j c he hc => ?_)
    · cases j with
      | zero => exact hm e 0 (.v (.int .u8 (g e))) he rfl
      | succ j => simp [bsF] at hc
    · cases j with
      | zero => exact ho e 0 (.v (.int .u8 (g e))) he rfl
      | succ j => simp [bsF] at hc
    · cases j with
      | zero =>
        have h1 := hv e 0 (.v (.int .u8 (g e))) he rfl
        simp only [bsF, List.getElem?_cons_zero, Option.some.injEq] at hc
        subst hc
        rw [sbyte_textOf he rfl (hw e he).1 (hw e he).2]
        exact h1
      | succ j => simp [bsF] at hc
  | slnil _ _ _ A cap hl hn ha => exact .slnil 1 m _ A cap (fun _ => rfl) hn ha
theorem open_bytes {t e : TypeId} {v : Value} {r : Reach} {b0 : Nat} {d : DataW H} {ps : List MemPlace} (ht : P.underlying t = some (.slice e)) (he : P.underlying e = some (.int .u8)) (hc : P.cellsOf e = 1)
    (hval : Value.okWide P w r b0 t v) (h : DataW.Trod enc P w base sp held t v d ps) : ∃ x : Option ByteArray, V0 (σof w) (bArg x) v := by
  rcases open_sl ht he hc hval h with rfl | ⟨m, g, h1, h2⟩
  · exact ⟨none, .v _⟩
  · refine ⟨_, h1.bytes fun i hi => ?_⟩
    have := h2 i hi
    simp [Lit.wf, IntKind.min, IntKind.max, IntKind.signed, IntKind.bits] at this
    omega
end
end Go.Eng

/- cert: what the document answers. -/
namespace Go.Eng.Ce
open Go Go.Eng Go.Proofs
set_option linter.unusedSimpArgs false
set_option linter.unusedVariables false
noncomputable def Z.c26 : CT Try.prog Γd := CT.auto false 1 1 [Z.c35] 26 Try.f26 (bodyOf Try.f26) false 11 [.tmp 2] Try.func26 (by kernel_rfl) (by kernel_rfl) (by kernel_rfl) (by kernel_rfl)
theorem run14 (x : Ct) : bodyE (P := Try.prog) (Γ := Γd) [S.c25] Lno false 69 [.tmp 2] (bodyOf Try.f14) [x.av] [] =
  Tree.br (decide (x.k = (0 : Int)))
  (Tree.leaf
    (Ans.mk
      (AV.sb
        (decide (x.k = (0 : Int)) &&
          (decide (x.b = (0 : Int)) &&
            (decide (x.v = (0 : Int)) &&
              (decide (x.r = (0 : Int)) &&
                (decide (x.h = (0 : Int)) &&
                  (decide (x.a = (0 : Int)) && (decide (x.s = (0 : Int)) && decide (x.c = (0 : Int))))))))))
      []))
  (Tree.br
    (bif !bif decide ((1 : Int) ≤ x.b) then decide (x.b ≤ (2147483647 : Int)) else false then true
    else
      bif !bif decide ((1 : Int) ≤ x.v) then decide (x.v ≤ (1048576 : Int)) else false then true
      else
        bif !bif decide ((1 : Int) ≤ x.r) then decide (x.r ≤ (1073741824 : Int)) else false then true
        else
          bif decide (x.s < (1 : Int)) then true
          else bif decide ((1023 : Int) < x.s) then true else decide ((1023 : Int) < x.c))
    (Tree.leaf (Ans.mk (AV.v (Value.bool false)) []))
    (Tree.br (decide (x.k = (1 : Int)))
      (Tree.leaf
        (Ans.mk
          (AV.sb
            (bif decide (x.h = (0 : Int)) then bif decide (x.a = (0 : Int)) then decide (x.c = (0 : Int)) else false
            else false))
          []))
      (Tree.leaf
        (Ans.mk
          (AV.sb
            (bif decide (x.k = (2 : Int)) then
              bif bif decide ((1 : Int) ≤ x.h) then decide (x.h ≤ (3 : Int)) else false then
                bif decide ((0 : Int) ≤ x.a) then decide (x.a ≤ (9 : Int)) else false
              else false
            else false))
          [])))) := by kernel_rfl
theorem run15 (x : Ct) : bodyE (P := Try.prog) (Γ := Γd) [Z.c26] Lno false 46 [.tmp 2] (bodyOf Try.f15) [x.av] [] =
  Tree.chk true
  (Tree.br (!decide (x.k = (0 : Int)))
    (Tree.chk
      (true &&
        (decide
            ((bif okN x.k then numB x.k.toNat else ByteArray.mk #[]).size +
                (bif okN x.b then numB x.b.toNat else ByteArray.mk #[]).size ≤
              (9223372036854775807 : Nat)) &&
          (true &&
            (decide
                (((bif okN x.k then numB x.k.toNat else ByteArray.mk #[]) ++
                        bif okN x.b then numB x.b.toNat else ByteArray.mk #[]).size +
                    (bif okN x.v then numB x.v.toNat else ByteArray.mk #[]).size ≤
                  (9223372036854775807 : Nat)) &&
              (true &&
                (decide
                    ((((bif okN x.k then numB x.k.toNat else ByteArray.mk #[]) ++
                              bif okN x.b then numB x.b.toNat else ByteArray.mk #[]) ++
                            bif okN x.v then numB x.v.toNat else ByteArray.mk #[]).size +
                        (bif okN x.r then numB x.r.toNat else ByteArray.mk #[]).size ≤
                      (9223372036854775807 : Nat)) &&
                  (true &&
                    decide
                      (((((bif okN x.k then numB x.k.toNat else ByteArray.mk #[]) ++
                                  bif okN x.b then numB x.b.toNat else ByteArray.mk #[]) ++
                                bif okN x.v then numB x.v.toNat else ByteArray.mk #[]) ++
                              bif okN x.r then numB x.r.toNat else ByteArray.mk #[]).size +
                          (bif okN (IntKind.i64.wrap x.s) then numB (IntKind.i64.wrap x.s).toNat
                            else ByteArray.mk #[]).size ≤
                        (9223372036854775807 : Nat)))))))))
      (Tree.br (decide (x.k = (2 : Int)))
        (Tree.chk
          (true &&
            (decide
                ((((((bif okN x.k then numB x.k.toNat else ByteArray.mk #[]) ++
                              bif okN x.b then numB x.b.toNat else ByteArray.mk #[]) ++
                            bif okN x.v then numB x.v.toNat else ByteArray.mk #[]) ++
                          bif okN x.r then numB x.r.toNat else ByteArray.mk #[]) ++
                        bif okN (IntKind.i64.wrap x.s) then numB (IntKind.i64.wrap x.s).toNat
                        else ByteArray.mk #[]).size +
                    (bif okN x.h then numB x.h.toNat else ByteArray.mk #[]).size ≤
                  (9223372036854775807 : Nat)) &&
              (true &&
                (decide
                    (((((((bif okN x.k then numB x.k.toNat else ByteArray.mk #[]) ++
                                    bif okN x.b then numB x.b.toNat else ByteArray.mk #[]) ++
                                  bif okN x.v then numB x.v.toNat else ByteArray.mk #[]) ++
                                bif okN x.r then numB x.r.toNat else ByteArray.mk #[]) ++
                              bif okN (IntKind.i64.wrap x.s) then numB (IntKind.i64.wrap x.s).toNat
                              else ByteArray.mk #[]) ++
                            bif okN x.h then numB x.h.toNat else ByteArray.mk #[]).size +
                        (bif okN x.a then numB x.a.toNat else ByteArray.mk #[]).size ≤
                      (9223372036854775807 : Nat)) &&
                  (true &&
                    decide
                      ((((((((bif okN x.k then numB x.k.toNat else ByteArray.mk #[]) ++
                                        bif okN x.b then numB x.b.toNat else ByteArray.mk #[]) ++
                                      bif okN x.v then numB x.v.toNat else ByteArray.mk #[]) ++
                                    bif okN x.r then numB x.r.toNat else ByteArray.mk #[]) ++
                                  bif okN (IntKind.i64.wrap x.s) then numB (IntKind.i64.wrap x.s).toNat
                                  else ByteArray.mk #[]) ++
                                bif okN x.h then numB x.h.toNat else ByteArray.mk #[]) ++
                              bif okN x.a then numB x.a.toNat else ByteArray.mk #[]).size +
                          (bif okN (IntKind.i64.wrap x.c) then numB (IntKind.i64.wrap x.c).toNat
                            else ByteArray.mk #[]).size ≤
                        (9223372036854775807 : Nat)))))))
          (Tree.leaf
            (Ans.mk
              (AV.v
                (Value.string
                  ((((((((bif okN x.k then numB x.k.toNat else ByteArray.mk #[]) ++
                                bif okN x.b then numB x.b.toNat else ByteArray.mk #[]) ++
                              bif okN x.v then numB x.v.toNat else ByteArray.mk #[]) ++
                            bif okN x.r then numB x.r.toNat else ByteArray.mk #[]) ++
                          bif okN (IntKind.i64.wrap x.s) then numB (IntKind.i64.wrap x.s).toNat
                          else ByteArray.mk #[]) ++
                        bif okN x.h then numB x.h.toNat else ByteArray.mk #[]) ++
                      bif okN x.a then numB x.a.toNat else ByteArray.mk #[]) ++
                    bif okN (IntKind.i64.wrap x.c) then numB (IntKind.i64.wrap x.c).toNat else ByteArray.mk #[])))
              [])))
        (Tree.leaf
          (Ans.mk
            (AV.v
              (Value.string
                (((((bif okN x.k then numB x.k.toNat else ByteArray.mk #[]) ++
                        bif okN x.b then numB x.b.toNat else ByteArray.mk #[]) ++
                      bif okN x.v then numB x.v.toNat else ByteArray.mk #[]) ++
                    bif okN x.r then numB x.r.toNat else ByteArray.mk #[]) ++
                  bif okN (IntKind.i64.wrap x.s) then numB (IntKind.i64.wrap x.s).toNat else ByteArray.mk #[])))
            []))))
    (Tree.br (decide (x.k = (2 : Int)))
      (Tree.chk
        (true &&
          (decide
              ((bif okN x.k then numB x.k.toNat else ByteArray.mk #[]).size +
                  (bif okN x.h then numB x.h.toNat else ByteArray.mk #[]).size ≤
                (9223372036854775807 : Nat)) &&
            (true &&
              (decide
                  (((bif okN x.k then numB x.k.toNat else ByteArray.mk #[]) ++
                          bif okN x.h then numB x.h.toNat else ByteArray.mk #[]).size +
                      (bif okN x.a then numB x.a.toNat else ByteArray.mk #[]).size ≤
                    (9223372036854775807 : Nat)) &&
                (true &&
                  decide
                    ((((bif okN x.k then numB x.k.toNat else ByteArray.mk #[]) ++
                              bif okN x.h then numB x.h.toNat else ByteArray.mk #[]) ++
                            bif okN x.a then numB x.a.toNat else ByteArray.mk #[]).size +
                        (bif okN (IntKind.i64.wrap x.c) then numB (IntKind.i64.wrap x.c).toNat
                          else ByteArray.mk #[]).size ≤
                      (9223372036854775807 : Nat)))))))
        (Tree.leaf
          (Ans.mk
            (AV.v
              (Value.string
                ((((bif okN x.k then numB x.k.toNat else ByteArray.mk #[]) ++
                      bif okN x.h then numB x.h.toNat else ByteArray.mk #[]) ++
                    bif okN x.a then numB x.a.toNat else ByteArray.mk #[]) ++
                  bif okN (IntKind.i64.wrap x.c) then numB (IntKind.i64.wrap x.c).toNat else ByteArray.mk #[])))
            [])))
      (Tree.leaf (Ans.mk (AV.v (Value.string (bif okN x.k then numB x.k.toNat else ByteArray.mk #[]))) [])))) := by kernel_rfl
theorem run12 (x : Ct) : bodyE (P := Try.prog) (Γ := Γd) [] Lno false 28 [.cell 2 30] (bodyOf Try.f12) [x.av] [] =
  Tree.br (decide (x.k = (1 : Int)))
  (Tree.leaf
    (Ans.mk
      (AV.agg
        [AV.v (Value.int IntKind.i64 (2 : Int)), AV.v (Value.int IntKind.i64 x.b), AV.v (Value.int IntKind.i64 x.v),
          AV.v (Value.int IntKind.i64 x.r), AV.v (Value.int IntKind.i64 (0 : Int)),
          AV.v (Value.int IntKind.i64 (0 : Int)), AV.v (Value.int IntKind.i64 (0 : Int)),
          AV.v (Value.int IntKind.i64 (0 : Int)), AV.v (Value.int IntKind.i64 (0 : Int)),
          AV.v (Value.int IntKind.i64 (0 : Int))])
      []))
  (Tree.br (decide (x.k = (2 : Int)))
    (Tree.leaf
      (Ans.mk
        (AV.agg
          [AV.v (Value.int IntKind.i64 (4 : Int)), AV.v (Value.int IntKind.i64 x.b), AV.v (Value.int IntKind.i64 x.v),
            AV.v (Value.int IntKind.i64 x.r), AV.v (Value.int IntKind.i64 x.h), AV.v (Value.int IntKind.i64 x.a),
            AV.v (Value.int IntKind.i64 (0 : Int)), AV.v (Value.int IntKind.i64 (0 : Int)),
            AV.v (Value.int IntKind.i64 (0 : Int)), AV.v (Value.int IntKind.i64 (0 : Int))])
        []))
    (Tree.leaf
      (Ans.mk
        (AV.agg
          [AV.v (Value.int IntKind.i64 (0 : Int)), AV.v (Value.int IntKind.i64 (0 : Int)),
            AV.v (Value.int IntKind.i64 (0 : Int)), AV.v (Value.int IntKind.i64 (0 : Int)),
            AV.v (Value.int IntKind.i64 (0 : Int)), AV.v (Value.int IntKind.i64 (0 : Int)),
            AV.v (Value.int IntKind.i64 (0 : Int)), AV.v (Value.int IntKind.i64 (0 : Int)),
            AV.v (Value.int IntKind.i64 (0 : Int)), AV.v (Value.int IntKind.i64 (0 : Int))])
        []))) := by kernel_rfl
theorem and_high (n : Nat) (h : n < 4294967296) : n &&& 4294966272 = 0 ↔ n < 1024 := by
  constructor
  · intro h0
    have h1 : (n &&& 4294966272) >>> 10 = (n >>> 10) &&& (4294966272 >>> 10) := Nat.shiftRight_and_distrib
    rw [h0, show (4294966272 >>> 10 : Nat) = 2 ^ 22 - 1 from by decide, Nat.and_two_pow_sub_one_eq_mod, Nat.shiftRight_eq_div_pow, Nat.shiftRight_eq_div_pow] at h1
    omega
  · intro hl
    have : ∀ k : Fin 1024, k.val &&& 4294966272 = 0 := by decide +kernel
    exact this ⟨n, hl⟩
theorem setOk_iff {s : Int} (h : 0 ≤ s) (h' : s < 4294967296) : setOk s = decide (s ≤ 1023) := by
  obtain ⟨n, rfl⟩ := Int.eq_ofNat_of_zero_le h
  have e : bitI .andNot .u32 (n : Int) 1023 = ((n &&& 4294966272 : Nat) : Int) := by
    show IntKind.u32.wrap (((BitVec.ofInt 32 (n : Int) &&& ~~~ BitVec.ofInt 32 1023).toNat : Nat) : Int) = _
    have e1 : (BitVec.ofInt 32 (n : Int)).toNat = n := by
      rw [BitVec.toNat_ofInt]; omega
    rw [BitVec.toNat_and, e1, show (~~~ BitVec.ofInt 32 1023).toNat = 4294966272 from by decide, wrapU32]
    have := Nat.and_le_left (n := n) (m := 4294966272)
    omega
  unfold setOk
  rw [e]
  have := and_high n (by omega)
  by_cases hl : n < 1024
  · rw [decide_eq_true (by rw [this.2 hl]; rfl), decide_eq_true (by omega)]
  · have hne : n &&& 4294966272 ≠ 0 := fun h0 => hl (this.1 h0)
    rw [decide_eq_false (by omega), decide_eq_false (by omega)]
theorem ans14 {x : Ct} (hx : x.wide) : Answers Try.prog Γd 14 [x.av] [] (.sb x.ok) [] [] := answers (fn := Try.f14) (c := bodyOf Try.f14) (ntmps := 69) (results := [.tmp 2]) [S.c25] Lno false Try.func14 (by kernel_rfl) (by kernel_rfl) (by kernel_rfl) (by kernel_rfl) (by simp) rfl (noLoops (by kernel_rfl)) (by
  refine Meets.of (run14 x) ?_
  obtain ⟨s1, s2, c1, c2⟩ := hx
  have e1 := setOk_iff s1 s2
  have e2 := setOk_iff c1 c2
  obtain ⟨k, b, v, r, h, a, s, c⟩ := x
  simp only at s1 s2 c1 c2 e1 e2
  simp only [Ct.ok, Ct.wf, e1, e2]
  by_cases k0 : k = 0
  · subst k0
    simp only [decide_true, Tree.sat_chk, Tree.sat_br, Tree.sat_leaf, le_sbsb, le_vsb, List.append_nil, List.map_nil, LeH_nil, and_true, cond_true]
    grind
  · rw [decide_eq_false k0]
    by_cases k1 : k = 1
    · subst k1
      simp only [decide_true, Tree.sat_chk, Tree.sat_br, Tree.sat_leaf, le_sbsb, le_vsb, List.append_nil, List.map_nil, LeH_nil, and_true, cond_true, cond_false]
      grind
    · rw [decide_eq_false k1]
      by_cases k2 : k = 2
      · subst k2
        simp only [decide_true, Tree.sat_chk, Tree.sat_br, Tree.sat_leaf, le_sbsb, le_vsb, List.append_nil, List.map_nil, LeH_nil, and_true, cond_true, cond_false]
        grind
      · rw [decide_eq_false k2]
        simp only [Tree.sat_chk, Tree.sat_br, Tree.sat_leaf, le_sbsb, le_vsb, List.append_nil, List.map_nil, LeH_nil, and_true, cond_true, cond_false]
        grind)
theorem ans12 (x : Ct) : Answers Try.prog Γd 12 [x.av] [] (stAv x.k x.b x.v x.r x.h x.a) [] [] := answers (fn := Try.f12) (c := bodyOf Try.f12) (ntmps := 28) (results := [.cell 2 30]) [] Lno false Try.func12 (by kernel_rfl) (by kernel_rfl) (by kernel_rfl) (by kernel_rfl) (by simp) rfl (noLoops (by kernel_rfl)) (by
  refine Meets.of (run12 x) ?_
  unfold stAv stK st12 st2
  by_cases h1 : x.k = 1
  · rw [decide_eq_true h1]; exact ⟨fun _ => ⟨.refl _, trivial⟩, fun h => by simp at h⟩
  · rw [decide_eq_false h1]
    by_cases h2 : x.k = 2
    · rw [decide_eq_true h2]; exact ⟨fun h => by simp at h, fun _ => ⟨fun _ => ⟨.refl _, trivial⟩, fun h => by simp at h⟩⟩
    · rw [decide_eq_false h2]; exact ⟨fun h => by simp at h, fun _ => ⟨fun h => by simp at h, fun _ => ⟨.refl _, trivial⟩⟩⟩)
theorem numSz {n : Int} (h : okN n = true) : (numB n.toNat).size ≤ 9 := by
  obtain ⟨k, rfl, hk⟩ := okN_nat h
  rw [Int.toNat_natCast]; exact (numB_size hk).1
def Ans15 (x : Ct) (m : Nat) : Prop := Answers Try.prog Γd 15 [x.av] [] (.v (.string (catN (gC x) m))) [] []
theorem ans150 {x : Ct} (h : x.k = 0) : Ans15 x 1 := answers (fn := Try.f15) (c := bodyOf Try.f15) (ntmps := 46) (results := [.tmp 2]) [Z.c26] Lno false Try.func15 (by kernel_rfl) (by kernel_rfl) (by kernel_rfl) (by kernel_rfl) (by simp) rfl (noLoops (by kernel_rfl)) (by
  have h0 := (na0 h).1 0 (by show 0 < 0 + 1; omega)
  replace h0 : okN x.k = true := h0
  refine Meets.of (run15 x) ?_
  rw [decide_eq_true h, decide_eq_false (show ¬ x.k = 2 by omega)]
  simp only [Tree.sat_chk, Tree.sat_br, Tree.sat_leaf, h0, cond_true]
  refine ⟨trivial, fun h => by simp at h, fun _ => ⟨fun h => by simp at h, fun _ => ⟨.of_eq ?_, trivial⟩⟩⟩
  show _ = AV.v (.string (⟨#[]⟩ ++ numB x.k.toNat))
  rw [empty_append])
theorem ans154 {x : Ct} (hx : x.wide) (h : x.k = 1) (hw : x.wf = true) : Ans15 x 5 := answers (fn := Try.f15) (c := bodyOf Try.f15) (ntmps := 46) (results := [.tmp 2]) [Z.c26] Lno false Try.func15 (by kernel_rfl) (by kernel_rfl) (by kernel_rfl) (by kernel_rfl) (by simp) rfl (noLoops (by kernel_rfl)) (by
  have hn := (na4 hx h hw).1
  have h0 : okN x.k = true := hn 0 (by show 0 < 4 + 1; omega)
  have h1 : okN x.b = true := hn 1 (by show 1 < 4 + 1; omega)
  have h2 : okN x.v = true := hn 2 (by show 2 < 4 + 1; omega)
  have h3 : okN x.r = true := hn 3 (by show 3 < 4 + 1; omega)
  have h4 : okN x.s = true := hn 4 (by show 4 < 4 + 1; omega)
  have z0 := numSz h0
  have z1 := numSz h1
  have z2 := numSz h2
  have z3 := numSz h3
  have z4 := numSz h4
  have w1 := wrapS hx.1 hx.2.1
  refine Meets.of (run15 x) ?_
  rw [decide_eq_false (show ¬ x.k = 0 by omega), decide_eq_false (show ¬ x.k = 2 by omega)]
  simp only [Tree.sat_chk, Tree.sat_br, Tree.sat_leaf, h0, h1, h2, h3, h4, w1, cond_true, ByteArray.size_append, Bool.and_eq_true, decide_eq_true_eq]
  refine ⟨trivial, fun _ => ⟨⟨trivial, by omega, trivial, by omega, trivial, by omega, trivial, by omega⟩, fun h => by simp at h, fun _ => ⟨.of_eq ?_, trivial⟩⟩, fun h => by simp at h⟩
  show _ = AV.v (.string (((((⟨#[]⟩ ++ numB x.k.toNat) ++ numB x.b.toNat) ++ numB x.v.toNat) ++ numB x.r.toNat) ++ numB x.s.toNat))
  rw [empty_append])
theorem ans157 {x : Ct} (hx : x.wide) (h : x.k = 2) (hw : x.wf = true) (g1 : 1 ≤ x.h) (g2 : x.h ≤ 3) (g3 : 0 ≤ x.a) (g4 : x.a ≤ 9) : Ans15 x 8 := answers (fn := Try.f15) (c := bodyOf Try.f15) (ntmps := 46) (results := [.tmp 2]) [Z.c26] Lno false Try.func15 (by kernel_rfl) (by kernel_rfl) (by kernel_rfl) (by kernel_rfl) (by simp) rfl (noLoops (by kernel_rfl)) (by
  have hn := (na7 hx h hw g1 g2 g3 g4).1
  have h0 : okN x.k = true := hn 0 (by show 0 < 7 + 1; omega)
  have h1 : okN x.b = true := hn 1 (by show 1 < 7 + 1; omega)
  have h2 : okN x.v = true := hn 2 (by show 2 < 7 + 1; omega)
  have h3 : okN x.r = true := hn 3 (by show 3 < 7 + 1; omega)
  have h4 : okN x.s = true := hn 4 (by show 4 < 7 + 1; omega)
  have h5 : okN x.h = true := hn 5 (by show 5 < 7 + 1; omega)
  have h6 : okN x.a = true := hn 6 (by show 6 < 7 + 1; omega)
  have h7 : okN x.c = true := hn 7 (by show 7 < 7 + 1; omega)
  have z0 := numSz h0
  have z1 := numSz h1
  have z2 := numSz h2
  have z3 := numSz h3
  have z4 := numSz h4
  have z5 := numSz h5
  have z6 := numSz h6
  have z7 := numSz h7
  have w1 := wrapS hx.1 hx.2.1
  have w2 := wrapS hx.2.2.1 hx.2.2.2
  refine Meets.of (run15 x) ?_
  rw [decide_eq_false (show ¬ x.k = 0 by omega), decide_eq_true h]
  simp only [Tree.sat_chk, Tree.sat_br, Tree.sat_leaf, h0, h1, h2, h3, h4, h5, h6, h7, w1, w2, cond_true, ByteArray.size_append, Bool.and_eq_true, decide_eq_true_eq]
  refine ⟨trivial, fun _ => ⟨⟨trivial, by omega, trivial, by omega, trivial, by omega, trivial, by omega⟩, fun _ => ⟨⟨trivial, by omega, trivial, by omega, trivial, by omega⟩, .of_eq ?_, trivial⟩, fun h => by simp at h⟩, fun h => by simp at h⟩
  show _ = AV.v (.string ((((((((⟨#[]⟩ ++ numB x.k.toNat) ++ numB x.b.toNat) ++ numB x.v.toNat) ++ numB x.r.toNat) ++ numB x.s.toNat) ++ numB x.h.toNat) ++ numB x.a.toNat) ++ numB x.c.toNat))
  rw [empty_append])
theorem runLx (x : Ct) (hx : x.wide) (h : x.ok = false) : bodyE (P := Try.prog) (Γ := Γd) [c6, CT.at 11 (ansCx h), Z.c9, CT.at 12 (ans12 x), S.c8, S.c13, CT.at 14 (ans14 hx), Z.c7] Lno false 69 [.tmp 2] (bodyOf Try.f4) [x.av] [] =
  Tree.chk
  (cl
    (LeL
        [AV.agg
            [AV.v (Value.int IntKind.i64 x.k), AV.v (Value.int IntKind.i64 x.b), AV.v (Value.int IntKind.i64 x.v),
              AV.v (Value.int IntKind.i64 x.r), AV.v (Value.int IntKind.i64 x.h), AV.v (Value.int IntKind.i64 x.a),
              AV.v (Value.int IntKind.u32 x.s), AV.v (Value.int IntKind.u32 x.c)]]
        [AV.agg
            [AV.v (Value.int IntKind.i64 x.k), AV.v (Value.int IntKind.i64 x.b), AV.v (Value.int IntKind.i64 x.v),
              AV.v (Value.int IntKind.i64 x.r), AV.v (Value.int IntKind.i64 x.h), AV.v (Value.int IntKind.i64 x.a),
              AV.v (Value.int IntKind.u32 x.s), AV.v (Value.int IntKind.u32 x.c)]] ∧
      LeH [] []))
  (Tree.chk
    (true &&
      cl
        (LeL
            [AV.agg
                [AV.v (Value.int IntKind.i64 x.k), AV.v (Value.int IntKind.i64 x.b), AV.v (Value.int IntKind.i64 x.v),
                  AV.v (Value.int IntKind.i64 x.r), AV.v (Value.int IntKind.i64 x.h), AV.v (Value.int IntKind.i64 x.a),
                  AV.v (Value.int IntKind.u32 x.s), AV.v (Value.int IntKind.u32 x.c)]]
            [AV.agg
                [AV.v (Value.int IntKind.i64 x.k), AV.v (Value.int IntKind.i64 x.b), AV.v (Value.int IntKind.i64 x.v),
                  AV.v (Value.int IntKind.i64 x.r), AV.v (Value.int IntKind.i64 x.h), AV.v (Value.int IntKind.i64 x.a),
                  AV.v (Value.int IntKind.u32 x.s), AV.v (Value.int IntKind.u32 x.c)]] ∧
          LeH [] []))
    (Tree.br
      (bif
          !(decide (stK x.k = stK x.k) &&
              (decide (st12 x.k x.b = st12 x.k x.b) &&
                (decide (st12 x.k x.v = st12 x.k x.v) &&
                  (decide (st12 x.k x.r = st12 x.k x.r) &&
                    (decide (st2 x.k x.h = st2 x.k x.h) && (decide (st2 x.k x.a = st2 x.k x.a) && true)))))) then
        true
      else
        bif
            !(decide (x.k = x.k) &&
                (decide (x.b = x.b) &&
                  (decide (x.v = x.v) &&
                    (decide (x.r = x.r) && (decide (x.h = x.h) && (decide (x.a = x.a) && true)))))) then
          true
        else
          bif decide (x.k = (2 : Int)) then
            !(bif decide (x.k = (2 : Int)) then !decide (x.c = (0 : Int)) else false) == !decide (x.c = (0 : Int))
          else !(bif decide (x.k = (2 : Int)) then !decide (x.c = (0 : Int)) else false) == false)
      (Tree.leaf (Ans.mk (AV.v (Value.bool false)) []))
      (Tree.chk
        (cl
          (LeL
              [AV.agg
                  [AV.v (Value.int IntKind.i64 x.k), AV.v (Value.int IntKind.i64 x.b), AV.v (Value.int IntKind.i64 x.v),
                    AV.v (Value.int IntKind.i64 x.r), AV.v (Value.int IntKind.i64 x.h),
                    AV.v (Value.int IntKind.i64 x.a), AV.v (Value.int IntKind.u32 x.s),
                    AV.v (Value.int IntKind.u32 x.c)]]
              [AV.agg
                  [AV.v (Value.int IntKind.i64 x.k), AV.v (Value.int IntKind.i64 x.b), AV.v (Value.int IntKind.i64 x.v),
                    AV.v (Value.int IntKind.i64 x.r), AV.v (Value.int IntKind.i64 x.h),
                    AV.v (Value.int IntKind.i64 x.a), AV.v (Value.int IntKind.u32 x.s),
                    AV.v (Value.int IntKind.u32 x.c)]] ∧
            LeH [] []))
        (Tree.br (!x.ok)
          (Tree.chk (bif true then bif true then true else true else true)
            (Tree.leaf
              (Ans.mk
                (AV.sb
                  (bif true then
                    bif true then
                      decide
                        ((bif (Ct.mk x.k x.b x.v x.r x.h x.a x.s x.c).ok then (0 : Int) else (110 : Int)) = (110 : Int))
                    else false
                  else false))
                [])))
          (Tree.br false
            (Tree.chk true
              (Tree.br
                (decide ((bif (Ct.mk x.k x.b x.v x.r x.h x.a x.s x.c).ok then (0 : Int) else (110 : Int)) = (0 : Int)))
                Tree.fail (Tree.leaf (Ans.mk (AV.v (Value.bool false)) []))))
            (Tree.leaf (Ans.mk (AV.v (Value.bool false)) []))))))) := by kernel_rfl
theorem runLg (x : Ct) (m : Nat) (hx : x.wide) (h : AnsC x m) (h5 : Ans15 x m) : bodyE (P := Try.prog) (Γ := Γd) [c6, CT.at 11 h, Z.c9, CT.at 12 (ans12 x), S.c8, S.c13, CT.at 14 (ans14 hx), Z.c7, CT.at 15 h5] Lno false 69 [.tmp 2] (bodyOf Try.f4) [x.av] [] =
  Tree.chk
  (cl
    (LeL
        [AV.agg
            [AV.v (Value.int IntKind.i64 x.k), AV.v (Value.int IntKind.i64 x.b), AV.v (Value.int IntKind.i64 x.v),
              AV.v (Value.int IntKind.i64 x.r), AV.v (Value.int IntKind.i64 x.h), AV.v (Value.int IntKind.i64 x.a),
              AV.v (Value.int IntKind.u32 x.s), AV.v (Value.int IntKind.u32 x.c)]]
        [AV.agg
            [AV.v (Value.int IntKind.i64 x.k), AV.v (Value.int IntKind.i64 x.b), AV.v (Value.int IntKind.i64 x.v),
              AV.v (Value.int IntKind.i64 x.r), AV.v (Value.int IntKind.i64 x.h), AV.v (Value.int IntKind.i64 x.a),
              AV.v (Value.int IntKind.u32 x.s), AV.v (Value.int IntKind.u32 x.c)]] ∧
      LeH [] []))
  (Tree.chk
    (true &&
      cl
        (LeL
            [AV.agg
                [AV.v (Value.int IntKind.i64 x.k), AV.v (Value.int IntKind.i64 x.b), AV.v (Value.int IntKind.i64 x.v),
                  AV.v (Value.int IntKind.i64 x.r), AV.v (Value.int IntKind.i64 x.h), AV.v (Value.int IntKind.i64 x.a),
                  AV.v (Value.int IntKind.u32 x.s), AV.v (Value.int IntKind.u32 x.c)]]
            [AV.agg
                [AV.v (Value.int IntKind.i64 x.k), AV.v (Value.int IntKind.i64 x.b), AV.v (Value.int IntKind.i64 x.v),
                  AV.v (Value.int IntKind.i64 x.r), AV.v (Value.int IntKind.i64 x.h), AV.v (Value.int IntKind.i64 x.a),
                  AV.v (Value.int IntKind.u32 x.s), AV.v (Value.int IntKind.u32 x.c)]] ∧
          LeH [] []))
    (Tree.br
      (bif
          !(decide (stK x.k = stK x.k) &&
              (decide (st12 x.k x.b = st12 x.k x.b) &&
                (decide (st12 x.k x.v = st12 x.k x.v) &&
                  (decide (st12 x.k x.r = st12 x.k x.r) &&
                    (decide (st2 x.k x.h = st2 x.k x.h) && (decide (st2 x.k x.a = st2 x.k x.a) && true)))))) then
        true
      else
        bif
            !(decide (x.k = x.k) &&
                (decide (x.b = x.b) &&
                  (decide (x.v = x.v) &&
                    (decide (x.r = x.r) && (decide (x.h = x.h) && (decide (x.a = x.a) && true)))))) then
          true
        else
          bif decide (x.k = (2 : Int)) then
            !(bif decide (x.k = (2 : Int)) then !decide (x.c = (0 : Int)) else false) == !decide (x.c = (0 : Int))
          else !(bif decide (x.k = (2 : Int)) then !decide (x.c = (0 : Int)) else false) == false)
      (Tree.leaf (Ans.mk (AV.v (Value.bool false)) []))
      (Tree.chk
        (cl
          (LeL
              [AV.agg
                  [AV.v (Value.int IntKind.i64 x.k), AV.v (Value.int IntKind.i64 x.b), AV.v (Value.int IntKind.i64 x.v),
                    AV.v (Value.int IntKind.i64 x.r), AV.v (Value.int IntKind.i64 x.h),
                    AV.v (Value.int IntKind.i64 x.a), AV.v (Value.int IntKind.u32 x.s),
                    AV.v (Value.int IntKind.u32 x.c)]]
              [AV.agg
                  [AV.v (Value.int IntKind.i64 x.k), AV.v (Value.int IntKind.i64 x.b), AV.v (Value.int IntKind.i64 x.v),
                    AV.v (Value.int IntKind.i64 x.r), AV.v (Value.int IntKind.i64 x.h),
                    AV.v (Value.int IntKind.i64 x.a), AV.v (Value.int IntKind.u32 x.s),
                    AV.v (Value.int IntKind.u32 x.c)]] ∧
            LeH [] []))
        (Tree.br (!x.ok)
          (Tree.chk
            (bif decide ((↑(catN (gC x) m).size : Int) = (0 : Int)) then bif false then true else true else true)
            (Tree.leaf
              (Ans.mk
                (AV.sb
                  (bif decide ((↑(catN (gC x) m).size : Int) = (0 : Int)) then
                    bif false then
                      decide
                        ((bif (Ct.mk x.k x.b x.v x.r x.h x.a x.s x.c).ok then (0 : Int) else (110 : Int)) = (110 : Int))
                    else false
                  else false))
                [])))
          (Tree.chk
            (bif true then
              true &&
                bif
                    decide
                      ((bif (Ct.mk x.k x.b x.v x.r x.h x.a x.s x.c).ok then (0 : Int) else (110 : Int)) =
                        (0 : Int)) then
                  (allBytes (catN (gC x) m).size fun j =>
                      [AV.v (Value.int IntKind.u8 (sbyte (catN (gC x) m) ((0 : Nat) + j)))]) &&
                    cl
                      (LeL
                          [AV.agg
                              [AV.v (Value.int IntKind.i64 x.k), AV.v (Value.int IntKind.i64 x.b),
                                AV.v (Value.int IntKind.i64 x.v), AV.v (Value.int IntKind.i64 x.r),
                                AV.v (Value.int IntKind.i64 x.h), AV.v (Value.int IntKind.i64 x.a),
                                AV.v (Value.int IntKind.u32 x.s), AV.v (Value.int IntKind.u32 x.c)]]
                          [AV.agg
                              [AV.v (Value.int IntKind.i64 x.k), AV.v (Value.int IntKind.i64 x.b),
                                AV.v (Value.int IntKind.i64 x.v), AV.v (Value.int IntKind.i64 x.r),
                                AV.v (Value.int IntKind.i64 x.h), AV.v (Value.int IntKind.i64 x.a),
                                AV.v (Value.int IntKind.u32 x.s), AV.v (Value.int IntKind.u32 x.c)]] ∧
                        LeH [] [])
                else true
            else true)
            (Tree.leaf
              (Ans.mk
                (AV.sb
                  (bif true then
                    bif
                        decide
                          ((bif (Ct.mk x.k x.b x.v x.r x.h x.a x.s x.c).ok then (0 : Int) else (110 : Int)) =
                            (0 : Int)) then
                      decide
                        ((textOf (catN (gC x) m).size fun j =>
                            [AV.v (Value.int IntKind.u8 (sbyte (catN (gC x) m) ((0 : Nat) + j)))]) =
                          catN (gC x) m)
                    else false
                  else false))
                []))))))) := by kernel_rfl
theorem stepC {x : Ct} {m : Nat} (hx : x.wide) (hok : x.ok = true) (h : AnsC x m) (h5 : Ans15 x m) : LawOK Try.prog Γd 69 [.tmp 2] (bodyOf Try.f4) [x.av] := by
  refine LawOK.mk' (noLoops (by kernel_rfl)) (Right.of (runLg x m hx h h5) ?_)
  have e : (Ct.mk x.k x.b x.v x.r x.h x.a x.s x.c).ok = true := hok
  simp only [hok, e]
  simp [LeL_self, LeH_self, cl_true, allBytes0, textOf0, allBytesF, textOfF, Tree.sat, le_sbv, le_vv]
  grind
theorem law4 (x : Ct) (hx : x.wide) : LawOK Try.prog Γd 69 [.tmp 2] (bodyOf Try.f4) [x.av] := by
  cases hok : x.ok with
  | false =>
    refine LawOK.mk' (noLoops (by kernel_rfl)) (Right.of (runLx x hx hok) ?_)
    have e : (Ct.mk x.k x.b x.v x.r x.h x.a x.s x.c).ok = false := hok
    simp only [hok, e]
    simp [LeL_self, LeH_self, cl_true, Tree.sat, le_sbv, le_vv]
    grind
  | true =>
    rcases ok_kinds hok with h | ⟨h, hw, _⟩ | ⟨h, hw, h1, h2, h3, h4⟩
    · exact stepC hx hok (ansC0 hok h) (ans150 h)
    · exact stepC hx hok (ansC4 hx hok h hw) (ans154 hx h hw)
    · exact stepC hx hok (ansC7 hx hok h hw h1 h2 h3 h4) (ans157 hx h hw h1 h2 h3 h4)
noncomputable def c4 : CT Try.prog Γd := CT.lawE (fun x : Ct => [x.av]) Ct.wide 4 Try.f4 (bodyOf Try.f4) 69 [.tmp 2] Try.func4 (by kernel_rfl) (by kernel_rfl) (by kernel_rfl) (by kernel_rfl) (fun _ _ => by simp) law4
end Go.Eng.Ce

/- CertForms holds at every input: no condition beyond the row own cells. -/
namespace Go.Proofs.Ytepeeokpkefgmaa
open Go Go.ChangeShapes Go.WideShapes Go.ChangeAt Go.WideMaps Go.WideElems Go.RowKit Go.Eng Go.Eng.Ce
set_option linter.unusedSimpArgs false
set_option linter.unusedVariables false

theorem own0 : ownKnob Try.prog.godebug = none := by kernel_rfl
set_option maxRecDepth 100000 in
theorem certForms_lifted (os : Os) (started : os.Started) (H : Type) (enc : TypeId × Value → H) :
    ReturnsInHanded {} Try.checked os 4 .any (Rows.certFormsSpec.pre6 enc Try.prog Try.f4 Rows.certFormsRow.domain false)
      (Rows.certFormsSpec.post enc Try.prog Try.f4 false true false false) := by
  refine returnsInHanded_of_change (C := Try.checked) own0 started (by kernel_rfl) Try.func4
    (ChangeSpec.witness6 (enc := enc) (C := Try.checked) false ⟨#[], #[.agg #[.int .i64 0, .int .i64 0, .int .i64 0, .int .i64 0, .int .i64 0, .int .i64 0, .int .u32 0, .int .u32 0]], []⟩ 8 (by kernel_rfl) (by kernel_rfl) (by kernel_rfl) (by kernel_rfl)) ?_
  intro W base args ds gs before hval0 hW hcnd _
  have hval : ∀ (j : Nat) t v, Try.f4.params[j]? = some t → args[j]? = some v → Value.okWide Try.prog W .any base t v := hval0
  have hW' := hW
  obtain ⟨p, q, hA0, hV, rfl, hfz, hnd⟩ := hW
  have hA : DataW.TrodAll enc Try.prog W 0 (fun _ => true) true Try.f4.params.toList args.toList ds p := hA0
  rw [Try.params4] at hA hval
  obtain ⟨v0, d0, rfl, rfl, h0⟩ := trodAll_one hA
  obtain ⟨rfl, rfl⟩ := trodVars_none hV
  obtain ⟨l0, rfl, g0_0⟩ := open_agg 9 (ks := [.int .i64, .int .i64, .int .i64, .int .i64, .int .i64, .int .i64, .int .u32, .int .u32]) Try.underlying24 (by kernel_rfl) (hval 0 24 v0 rfl rfl) h0
  obtain ⟨_, _, rfl, ⟨m0_0, rfl, w0_0⟩, g0_1⟩ := g0_0.cons
  obtain ⟨_, _, rfl, ⟨m0_1, rfl, w0_1⟩, g0_2⟩ := g0_1.cons
  obtain ⟨_, _, rfl, ⟨m0_2, rfl, w0_2⟩, g0_3⟩ := g0_2.cons
  obtain ⟨_, _, rfl, ⟨m0_3, rfl, w0_3⟩, g0_4⟩ := g0_3.cons
  obtain ⟨_, _, rfl, ⟨m0_4, rfl, w0_4⟩, g0_5⟩ := g0_4.cons
  obtain ⟨_, _, rfl, ⟨m0_5, rfl, w0_5⟩, g0_6⟩ := g0_5.cons
  obtain ⟨_, _, rfl, ⟨m0_6, rfl, w0_6⟩, g0_7⟩ := g0_6.cons
  obtain ⟨_, _, rfl, ⟨m0_7, rfl, w0_7⟩, g0_8⟩ := g0_7.cons
  obtain rfl := g0_8.nil
  refine (calls_true c4 (xs := [.agg [.v (.int .i64 m0_0), .v (.int .i64 m0_1), .v (.int .i64 m0_2), .v (.int .i64 m0_3), .v (.int .i64 m0_4), .v (.int .i64 m0_5), .v (.int .u32 m0_6), .v (.int .u32 m0_7)]]) (law_in (A := fun x : Ct => [x.av]) (pre := Ct.wide) (x := ⟨m0_0, m0_1, m0_2, m0_3, m0_4, m0_5, m0_6, m0_7⟩) (by have h1 := bounds_u32 w0_6; have h2 := bounds_u32 w0_7; unfold Ct.wide; refine ⟨h1.1, ?_, h2.1, ?_⟩ <;> (simp only; omega)) (.refl _)) (fun _ => .any _) (.one (V_agg (.one (V_v _) (.one (V_v _) (.one (V_v _) (.one (V_v _) (.one (V_v _) (.one (V_v _) (.one (V_v _) (.one (V_v _) (.none)))))))))) .none)).mono fun e W' ⟨he, ho⟩ => ?_
  subst he
  exact ⟨_, rfl, post_true (tb := 4) (by kernel_rfl) (by kernel_rfl) (by kernel_rfl) (by kernel_rfl) (by kernel_rfl) Try.underlying4 hW' rfl rfl ho⟩

theorem certForms_holds : Rows.CertFormsSaid :=
  OpenClaim.holds_of_wide 4 Try.f4 rfl rfl rfl rfl rfl rfl rfl ⟨rfl, rfl, rfl, rfl, rfl⟩ rfl rfl rfl rfl rfl (by kernel_rfl) Try.func4 (by kernel_rfl)
    (of_decide_eq_true (by kernel_rfl)) (by unfold Func.isWrapper; first | (rw [if_pos (by decide +kernel)]; kernel_rfl) | (rw [if_neg (by decide +kernel)]; exact ⟨rfl, rfl⟩))
    (fun os started H enc _ => certForms_lifted os started H enc)
#print axioms certForms_holds
end Go.Proofs.Ytepeeokpkefgmaa
