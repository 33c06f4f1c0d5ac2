/- Plain facts on bytes and on the bytes of numbers and what follows it. -/
import Derived.Test.YtdgmdjoaapdgbaaPart3
/- Plain facts on bytes and on the bytes of numbers. -/
namespace Go.Eng
open Go
set_option linter.unusedSimpArgs false
set_option linter.unusedVariables false
theorem sbyte_append (a b : ByteArray) (j : Nat) : sbyte (a ++ b) j = if j < a.size then sbyte a j else sbyte b (j - a.size) := by
  unfold sbyte
  simp only [ByteArray.data_append, Array.getElem?_append]
  split
  · rename_i h; rw [if_pos (by simpa using h)]
  · rename_i h; rw [if_neg (by simpa using h)]; rfl
theorem or128 (a : Int) (h : 0 ≤ a) (h' : a < 256) : bitI .or .u8 a 128 = a % 128 + 128 := by
  obtain ⟨n, rfl⟩ := Int.eq_ofNat_of_zero_le h
  have : ∀ k : Fin 256, bitI .or .u8 ((k.val : Nat) : Int) 128 = ((k.val : Nat) : Int) % 128 + 128 := by decide +kernel
  exact this ⟨n, by omega⟩
theorem wrap64E {x : Int} : IntKind.i64.wrap x = (x + 9223372036854775808) % 18446744073709551616 - 9223372036854775808 := by
  simp [IntKind.wrap, IntKind.signed, IntKind.bits]
  omega
theorem wrapU8 {x : Int} : IntKind.u8.wrap x = x % 256 := by
  simp [IntKind.wrap, IntKind.signed, IntKind.bits]
theorem wrapU64 {x : Int} : IntKind.u64.wrap x = x % 18446744073709551616 := by
  simp [IntKind.wrap, IntKind.signed, IntKind.bits]
theorem wrapU32 {x : Int} : IntKind.u32.wrap x = x % 4294967296 := by
  simp [IntKind.wrap, IntKind.signed, IntKind.bits]
/-- one byte as a text -/
def oneB (n : Nat) : ByteArray := ⟨#[UInt8.ofNat n]⟩
@[simp] theorem oneB_size (n : Nat) : (oneB n).size = 1 := rfl
theorem sbyte_oneB {n : Nat} (h : n < 256) : sbyte (oneB n) 0 = (n : Int) := by
  show (((UInt8.ofNat n).toNat : Nat) : Int) = _
  simp
  omega
theorem sbyte_out {t : ByteArray} {j : Nat} (h : t.size ≤ j) : sbyte t j = 0 := by
  unfold sbyte
  rw [Array.getElem?_eq_none (by simpa using h)]; rfl
theorem bs_eq {a b : ByteArray} (hs : a.size = b.size) (h : ∀ j, j < a.size → sbyte a j = sbyte b j) : a = b := by
  have : a.data = b.data := by
    refine Array.ext hs fun i h1 h2 => ?_
    have := h i h1
    unfold sbyte at this
    simp only [Array.getElem?_eq_getElem h1, Array.getElem?_eq_getElem h2, Option.getD_some] at this
    exact UInt8.toNat_inj.1 (by omega)
  cases a; cases b; simp at this; rw [this]
/-- the higher digits of a number, each with its mark; what is left of it -/
def hiB (n : Nat) : ByteArray := if h : n < 128 then ⟨#[]⟩ else oneB (n % 128 + 128) ++ hiB (n / 128)
termination_by n
decreasing_by omega
def loN (n : Nat) : Nat := if h : n < 128 then n else loN (n / 128)
termination_by n
decreasing_by omega
/-- a number's bytes -/
def numB (n : Nat) : ByteArray := hiB n ++ oneB (loN n)
theorem hiB_lt {n : Nat} (h : n < 128) : hiB n = ⟨#[]⟩ := by rw [hiB, dif_pos h]
theorem hiB_ge {n : Nat} (h : ¬ n < 128) : hiB n = oneB (n % 128 + 128) ++ hiB (n / 128) := by rw [hiB, dif_neg h]
theorem loN_lt {n : Nat} (h : n < 128) : loN n = n := by rw [loN, dif_pos h]
theorem loN_ge {n : Nat} (h : ¬ n < 128) : loN n = loN (n / 128) := by rw [loN, dif_neg h]
theorem loN_small (n : Nat) : loN n < 128 := by
  induction n using Nat.strongRecOn with
  | _ n ih =>
    by_cases h : n < 128
    · rw [loN_lt h]; exact h
    · rw [loN_ge h]; exact ih _ (by omega)
theorem hiB_size (n : Nat) (k : Nat) (h : n < 128 ^ (k + 1)) : (hiB n).size ≤ k := by
  induction k generalizing n with
  | zero => rw [hiB_lt (by simpa using h)]; exact Nat.le_refl _
  | succ k ih =>
    by_cases hn : n < 128
    · rw [hiB_lt hn]; exact Nat.zero_le _
    · rw [hiB_ge hn]
      have := ih (n / 128) (by rw [Nat.div_lt_iff_lt_mul (by decide)]; rw [Nat.pow_succ] at h; exact h)
      simp only [ByteArray.size_append, oneB_size]; omega
theorem numB_size {n : Nat} (h : n ≤ 4611686018427387904) : (numB n).size ≤ 9 ∧ 1 ≤ (numB n).size := by
  unfold numB
  have := hiB_size n 8 (by omega)
  simp only [ByteArray.size_append, oneB_size]; omega
theorem append_empty (t : ByteArray) : t ++ (⟨#[]⟩ : ByteArray) = t := by
  apply bs_eq
  · simp
    rfl
  · intro j hj
    rw [sbyte_append]
    split
    · rfl
    · rename_i h
      have : (t ++ (⟨#[]⟩ : ByteArray)).size = t.size := by simp; rfl
      omega
theorem empty_append (t : ByteArray) : (⟨#[]⟩ : ByteArray) ++ t = t := by
  apply bs_eq
  · simp
    rfl
  · intro j hj
    rw [sbyte_append]
    split
    · rename_i h; exact absurd h (Nat.not_lt_zero _)
    · rfl
theorem push_eq {t : ByteArray} {v : Int} (h : 0 ≤ v) (h' : v < 256) {j : Nat} (hj : j < t.size + 1) :
    (bif decide (j < t.size) then sbyte t ((0 : Nat) + j) else bif ((0 : Nat) + (j - t.size)).beq (0 : Nat) then v else (0 : Int)) = sbyte (t ++ oneB v.toNat) j := by
  rw [sbyte_append]
  by_cases hl : j < t.size
  · rw [decide_eq_true hl, if_pos hl, Nat.zero_add]; rfl
  · obtain rfl : j = t.size := by omega
    rw [decide_eq_false hl, if_neg hl, Nat.sub_self, sbyte_oneB (by omega)]
    simp
    omega
theorem textOf_one (v : Int) : (textOf (1 : Nat) fun j => [AV.v (Value.int IntKind.u8 (bif ((0 : Nat) + j).beq (0 : Nat) then v else (0 : Int)))]) = oneB v.toNat := rfl
theorem tdiv_nat (n k : Nat) : (n : Int).tdiv (k : Int) = ((n / k : Nat) : Int) := by
  rw [Int.tdiv_eq_ediv_of_nonneg (by omega)]; rfl
theorem tmod_nat (n k : Nat) : (n : Int).tmod (k : Int) = ((n % k : Nat) : Int) := by
  rw [Int.tmod_eq_emod_of_nonneg (by omega)]; rfl
theorem bsF_len (t : ByteArray) (e : Nat) : (bsF t e).length = 1 := rfl
end Go.Eng

/- Summaries of loops and functions at one state, which may be told more exactly than the summary asks. -/
namespace Go.Eng
open Go
set_option linter.unusedSimpArgs false
set_option linter.unusedVariables false
/-- a statement as a test -/
noncomputable def cl (p : Prop) : Bool := @decide p (Classical.propDecidable p)
theorem cl_iff {p : Prop} : cl p = true ↔ p := by unfold cl; exact @decide_eq_true_iff p (Classical.propDecidable p)
section
variable {P : Program} {Γ : Nat → AV} {m : Nat} {X : Type}
/-- a loop's summary at one state -/
noncomputable def LSpec.at (live : List Nat) (nils : List (Nat × TypeId)) (s : List AV × Heap) (o : Out) : LSpec :=
  ⟨live, nils, fun vals H => .chk (cl (LeL vals s.1 ∧ LeH H s.2)) (.leaf o)⟩
/-- what a round owes -/
def OwesA (S : X → List AV × Heap) (pre : X → Prop) (O : X → Out) (μ : X → Nat) (n : Nat) (o r : Out) : Prop :=
  match r.ex with
  | .normal => ∃ x', LeL r.fr (S x').1 ∧ LeH r.H (S x').2 ∧ pre x' ∧ O x' = o ∧ μ x' < n
  | _ => r.ex = o.ex ∧ LeL r.fr o.fr ∧ LeH r.H o.H
/-- a round's proof, with the summaries that it uses -/
structure RoundOK (P : Program) (Γ : Nat → AV) (m N k : Nat) (b : Code) (live : List Nat) (nils : List (Nat × TypeId)) (s : List AV × Heap) (Q : Out → Prop) : Prop where
  ok : ∃ (T : List (CT P Γ)) (L : Nat → LSpec) (ip : Bool), (∀ (j : Nat) (b' : Code), (loopBodies b)[j]? = some b' → LoopOK P Γ m N b' (L (k + j))) ∧ (roundE T L ip m k b live nils N s.1 s.2).sat Q
theorem loop_at {N k : Nat} {b : Code} {live : List Nat} {nils : List (Nat × TypeId)} {S : X → List AV × Heap} {pre : X → Prop} {O : X → Out} (μ : X → Nat)
    (hr : ∀ x, pre x → RoundOK P Γ m N k b live nils (S x) (OwesA S pre O μ (μ x) (O x))) : ∀ x, pre x → LoopOK P Γ m N b (LSpec.at live nils (S x) (O x)) := by
  intro x0 hp0 vals0 H0 o h0 κ σ0 φ0 a0 w0 Q hG0 hN0 hI0 hQ
  obtain ⟨hs0, h0⟩ := Tree.chk_get (show (Tree.chk _ (Tree.leaf (O x0))).get = some o from h0)
  obtain rfl := Tree.leaf_get h0
  obtain ⟨hle1, hle2⟩ := cl_iff.1 hs0
  let J : Act → World → Nat → Prop := fun a w n => ∃ x σ φ, pre x ∧ O x = O x0 ∧ σ0.le σ ∧ (∀ k, k < m → φ k = φ0 k) ∧ a.defers = a0.defers ∧ a.tmps.size = N ∧
    Inv κ m σ φ (expand N live (S x).1) (S x).2 a w ∧ μ x = n
  refine wp_loop (fun a w => ∃ n, J a w n) (fun a w => leastN (J a w)) ⟨_, x0, σ0, φ0, hp0, rfl, Store.le_refl _, fun _ _ => rfl, rfl, hN0, hI0.le hle1 hle2, rfl⟩ ?_
  intro a w hJ
  obtain ⟨x, σ, φ, hs, ho, e1, e2, e3, e4, hI, hn⟩ := leastN_mem hJ
  obtain ⟨T, L, ip, hL, hrr⟩ := (hr x hs).ok
  obtain ⟨r, hr1, hr2⟩ := Tree.sat_iff.1 hrr
  unfold roundE at hr1
  obtain ⟨o1, ho1, ho2⟩ := Tree.get_bind_some hr1
  refine code_ok b k _ (S x).2 o1 σ φ a w _ hL ho1 hI (hG0.mono e1) expand_len ?_
  intro a' w' σ' φ' f1 f2 f3 f4 hI'
  split at ho2
  · rename_i vals' H' hh
    simp only [Tree.get, Option.some.injEq] at ho2
    subst ho2
    obtain ⟨φ2, g1, hI2⟩ := head_ok hh hI'
    have hN' : a'.tmps.size = N := hI'.tmps.trans f4
    rw [hN'] at hI2
    unfold OwesA at hr2
    cases hex : o1.ex with
    | normal =>
      simp only [hex] at hr2
      obtain ⟨x', k1, k2, k3, k5, k4⟩ := hr2
      have hJ' : J a' w' (μ x') := ⟨x', σ', φ2, k3, k5.trans ho, Store.le_trans e1 f1, fun k hk => (g1 k hk).trans ((f2 k hk).trans (e2 k hk)), f3.trans e3, hN', hI2.le k1 k2, rfl⟩
      refine ⟨⟨_, hJ'⟩, Nat.lt_of_le_of_lt (leastN_le hJ') ?_⟩
      rw [← hn]; exact k4
    | exit id =>
      simp only [hex, ho] at hr2
      obtain ⟨k1, k2, k3⟩ := hr2
      have := hQ a' w' σ' φ2 (Store.le_trans e1 f1) (fun k hk => (g1 k hk).trans ((f2 k hk).trans (e2 k hk))) (f3.trans e3) hN' (hI2.le k2 k3)
      rw [← k1] at this
      exact this
    | ret =>
      simp only [hex, ho] at hr2
      obtain ⟨k1, k2, k3⟩ := hr2
      have := hQ a' w' σ' φ2 (Store.le_trans e1 f1) (fun k hk => (g1 k hk).trans ((f2 k hk).trans (e2 k hk))) (f3.trans e3) hN' (hI2.le k2 k3)
      rw [← k1] at this
      exact this
  · simp [Tree.get] at ho2
/-- a contract holds where more is known -/
theorem Contract.more {f : FuncId} {args a0 : List AV} {Hin H0 : List Blk} {r r0 : Res} (h : Contract P Γ f a0 H0 r0) (hv : LeL args a0) (hH : LeH (Hin.map some) (H0.map some)) (he : r0.heap H0 = r.heap Hin) (hval : r0.val = r.val) : Contract P Γ f args Hin r := by
  intro σ φ w vals hG hV hn hR
  have hlen : Hin.length = H0.length := by simpa using hH.len
  have := h σ φ w vals hG ⟨by rw [← hV.1]; exact hv.len.symm, fun j c y hc hy => by
    obtain ⟨x, h1, h2⟩ := hv.at j c hc
    exact h2.v (hV.2 j x y h1 hy)⟩ (by rw [← hlen]; exact hn) (hR.le fun i b' hb => hH.get i b' hb)
  refine this.mono fun e w' ⟨σ', φ', v, e1, e2, e3, e4, e5⟩ => ⟨σ', φ', v, e1, by rw [← hval]; exact e2, by rw [← he]; exact e3, by rw [hlen]; exact e4, by rw [← he]; exact e5⟩
/-- a function's summary at one call: H1 is what becomes of the blocks that were handed in -/
noncomputable def atSpec (a0 : List AV) (H0 : List Blk) (v : AV) (H1 : List (Option Blk)) (new : List Blk) (args : List AV) (Hin : List Blk) : Tree Res :=
  .chk (cl (LeL args a0 ∧ LeH (Hin.map some) (H0.map some))) (.leaf { val := v, upd := H1.map some, new := new })
/-- a summary of a function of scalars, its loops by what it is called with -/
def CT.funL (f : FuncId) (fn : Func) (c : Code) (T : List (CT P Γ)) (L : List KC → Nat → LSpec) (ip : Bool) (ntmps : Nat) (results : List ResultVar) (sh : List Sh) (pre : List KC → Bool) (g : List KC → AV) (hf : P.funcs[f]? = some fn) (hb : fn.body = some c) (hr : fn.results.toList = results)
    (hnt : fn.ntmps = ntmps) (hn : (fn.name == "runtime.NumGoroutine") = false) (hsz : sh.length ≤ ntmps) (hL : ∀ l, kFit (shCels sh) l = true → pre l = true → ∀ (j : Nat) (b : Code), (loopBodies c)[j]? = some b → LoopOK P Γ 0 ntmps b (L l j))
    (hs : ∀ l, kFit (shCels sh) l = true → pre l = true → Gives (bodyE T (L l) ip ntmps results c (toSh sh l) []) (g l)) : CT P Γ where
  f := f
  spec := funSpec sh pre g
  enters := callFunc_enters hf (by rw [hb]; rfl) hn
  ok := fun args Hin r h => by
    unfold funSpec at h
    split at h
    · split at h
      · rename_i l hl
        obtain ⟨hp, h⟩ := Tree.chk_get h
        obtain rfl := Tree.leaf_get h
        by_cases hfit : kFit (shCels sh) l = true
        · have hlen := toSh_len sh l
          subst hr; subst hnt
          exact (contract_of (T := T) (ip := ip) (Hin := []) (r := { val := g l }) hf hb (L l) (hL l hfit hp) (by rw [hlen]; exact hsz) (hs l hfit hp).ok).weak fun σ φ ys hv => (unSh_ok hl hv).2
        · intro σ φ w vals hG hV
          exact absurd (unSh_ok hl hV).1 hfit
      · simp [Tree.get] at h
    · simp [Tree.get] at h
/-- what a function answers at one call -/
structure Answers (P : Program) (Γ : Nat → AV) (f : FuncId) (a0 : List AV) (H0 : List Blk) (v : AV) (H1 : List (Option Blk)) (new : List Blk) : Prop where
  len : H1.length = H0.length
  enters : ∀ (args : Array Value) (w : World), (callFunc f args).run P w = .ok (.enter f args) w
  ok : Contract P Γ f a0 H0 { val := v, upd := H1.map some, new := new }
theorem outOf_all : ∀ (Hin : List Blk) (us : List (Option Blk)), us.length = Hin.length → outOf Hin (us.map some) = us := outOf_somes
noncomputable def CT.at (f : FuncId) {a0 : List AV} {H0 : List Blk} {v : AV} {H1 : List (Option Blk)} {new : List Blk} (h : Answers P Γ f a0 H0 v H1 new) : CT P Γ where
  f := f
  spec := atSpec a0 H0 v H1 new
  enters := h.enters
  ok := fun args Hin r hr => by
    obtain ⟨h1, h2⟩ := Tree.chk_get hr
    obtain rfl := Tree.leaf_get h2
    obtain ⟨hv, hH⟩ := cl_iff.1 h1
    refine h.ok.more hv hH ?_ rfl
    have hlen : Hin.length = H0.length := by simpa using hH.len
    unfold Res.heap
    rw [outOf_all _ _ h.len, outOf_all _ _ (h.len.trans hlen.symm)]
/-- by its body -/
theorem answers {f : FuncId} {fn : Func} {c : Code} (T : List (CT P Γ)) (L : Nat → LSpec) (ip : Bool) {ntmps : Nat} {results : List ResultVar} {a0 : List AV} {H0 : List Blk} {v : AV} {H1 : List (Option Blk)} {new : List Blk}
    (hf : P.funcs[f]? = some fn) (hb : fn.body = some c) (hr : fn.results.toList = results) (hnt : fn.ntmps = ntmps) (hn : (fn.name == "runtime.NumGoroutine") = false) (hsz : a0.length ≤ ntmps) (hlen : H1.length = H0.length)
    (hL : ∀ (j : Nat) (b : Code), (loopBodies c)[j]? = some b → LoopOK P Γ H0.length ntmps b (L j))
    (hs : Meets (bodyE T L ip ntmps results c a0 H0) v (H1 ++ new.map some)) : Answers P Γ f a0 H0 v H1 new where
  len := hlen
  enters := callFunc_enters hf (by rw [hb]; rfl) hn
  ok := by
    subst hr; subst hnt
    refine contract_of (T := T) (ip := ip) hf hb L hL hsz ?_
    have e : ({ val := v, upd := H1.map some, new := new } : Res).heap H0 = H1 ++ new.map some := by
      unfold Res.heap
      rw [outOf_all _ _ hlen]
    rw [e]
    exact hs.ok
end
end Go.Eng

/- A slice of bytes as an argument. -/
namespace Go.Eng
open Go Go.ChangeShapes
set_option linter.unusedSimpArgs false
set_option linter.unusedVariables false
theorem textOf_size (n : Nat) (f : Nat → List AV) : (textOf n f).size = n := by
  unfold textOf
  show ((List.range n).map _).toArray.size = n
  simp
theorem sbyte_textOf {n j : Nat} {f : Nat → List AV} {v : Int} (hj : j < n) (hf : f j = [.v (.int .u8 v)]) (h : 0 ≤ v) (h' : v < 256) : sbyte (textOf n f) j = v := by
  unfold textOf sbyte
  simp only [List.getElem?_toArray, List.getElem?_map, List.getElem?_range hj, Option.map_some, Option.getD_some, hf, byteIn]
  simp
  omega
/-- a law's proof at one input, with the summaries that it uses -/
structure LawOK (P : Program) (Γ : Nat → AV) (ntmps : Nat) (results : List ResultVar) (c : Code) (args : List AV) : Prop where
  ok : ∃ (T : List (CT P Γ)) (L : Nat → LSpec) (ip : Bool), (∀ (j : Nat) (b : Code), (loopBodies c)[j]? = some b → LoopOK P Γ 0 ntmps b (L j)) ∧ Right (bodyE T L ip ntmps results c args [])
theorem LawOK.mk' {P : Program} {Γ : Nat → AV} {ntmps : Nat} {results : List ResultVar} {c : Code} {args : List AV} {T : List (CT P Γ)} {L : Nat → LSpec} {ip : Bool} (hL : ∀ (j : Nat) (b : Code), (loopBodies c)[j]? = some b → LoopOK P Γ 0 ntmps b (L j))
    (h : Right (bodyE T L ip ntmps results c args [])) : LawOK P Γ ntmps results c args := ⟨T, L, ip, hL, h⟩
noncomputable def CT.lawE {P : Program} {Γ : Nat → AV} {X : Type} (A : X → List AV) (pre : X → Prop) (f : FuncId) (fn : Func) (c : Code) (ntmps : Nat) (results : List ResultVar) (hf : P.funcs[f]? = some fn) (hb : fn.body = some c) (hr : fn.results.toList = results)
    (hnt : fn.ntmps = ntmps) (hn : (fn.name == "runtime.NumGoroutine") = false) (hsz : ∀ x, pre x → (A x).length ≤ ntmps) (hs : ∀ x, pre x → LawOK P Γ ntmps results c (A x)) : CT P Γ where
  f := f
  spec := lawSpec A pre
  enters := callFunc_enters hf (by rw [hb]; rfl) hn
  ok := fun args Hin r h => by
    obtain ⟨rfl, rfl, x, hp, rfl⟩ := lawSpec_get h
    obtain ⟨T, L, ip, hL, h⟩ := (hs x hp).ok
    subst hr; subst hnt
    exact contract_of (T := T) (ip := ip) hf hb L hL (hsz x hp) h.ok
/-- bytes as an argument: nil, or a slice -/
def bArg : Option ByteArray → AV
  | none => .v (.slice none 0 0)
  | some t => .sl 1 t.size (bsF t)
section
variable {H : Type} {enc : TypeId × Value → H} {P : Program} {w : World} {base : Nat} {sp : Nat → Bool} {held : Bool}
theorem V0.bytes {σ : Store} {m : Nat} {g : Nat → Int} {v : Value} (h : V0 σ (.sl 1 m fun i => [.v (.int .u8 (g i))]) v) (hw : ∀ i, i < m → 0 ≤ g i ∧ g i < 256) :
    V0 σ (bArg (some (textOf m fun i => [.v (.int .u8 (g i))]))) v := by
  have hs := textOf_size m fun i => [AV.v (.int .u8 (g i))]
  show V0 σ (.sl 1 _ _) v
  rw [hs]
  cases h with
  | sl _ _ _ ad cap ys hsp hn hl hm ho hv =>
    refine .sl 1 m _ ad cap ys hsp hn (fun _ => rfl) (fun e j c he hc => ?_) (fun e j c he hc => ?_) (fun e j c he hc => ?_)
    · cases j with
      | zero => exact hm e 0 (.v (.int .u8 (g e))) he rfl
      | succ j => simp [bsF] at hc
    · cases j with
      | zero => exact ho e 0 (.v (.int .u8 (g e))) he rfl
      | succ j => simp [bsF] at hc
    · cases j with
      | zero =>
        have h1 := hv e 0 (.v (.int .u8 (g e))) he rfl
        simp only [bsF, List.getElem?_cons_zero, Option.some.injEq] at hc
        subst hc
        rw [sbyte_textOf he rfl (hw e he).1 (hw e he).2]
        exact h1
      | succ j => simp [bsF] at hc
  | slnil _ _ _ A cap hl hn ha => exact .slnil 1 m _ A cap (fun _ => rfl) hn ha
theorem open_bytes {t e : TypeId} {v : Value} {r : Reach} {b0 : Nat} {d : DataW H} {ps : List MemPlace} (ht : P.underlying t = some (.slice e)) (he : P.underlying e = some (.int .u8)) (hc : P.cellsOf e = 1)
    (hval : Value.okWide P w r b0 t v) (h : DataW.Trod enc P w base sp held t v d ps) : ∃ x : Option ByteArray, V0 (σof w) (bArg x) v := by
  rcases open_sl ht he hc hval h with rfl | ⟨m, g, h1, h2⟩
  · exact ⟨none, .v _⟩
  · refine ⟨_, h1.bytes fun i hi => ?_⟩
    have := h2 i hi
    simp [Lit.wf, IntKind.min, IntKind.max, IntKind.signed, IntKind.bits] at this
    omega
end
end Go.Eng

/- A slice of structs as an argument: its elements' cells are integers, bools and texts. -/
namespace Go.Eng
open Go Go.ChangeShapes
set_option linter.unusedSimpArgs false
set_option linter.unusedVariables false
theorem goodV_one {k : Cel} {v : Value} (h : goodV k v) : v.oneCell' = true := by
  cases k with
  | int k => obtain ⟨n, rfl, _⟩ := h; rfl
  | bool => obtain ⟨b, rfl⟩ := h; rfl
  | str => obtain ⟨s, rfl, _⟩ := h; rfl
theorem GoodVs.at : ∀ {ks : List Cel} {vs : List Value}, GoodVs ks vs → ∀ (j : Nat) (v : Value), vs[j]? = some v → ∃ k, goodV k v
  | k :: ks, v :: vs, h, 0, _, e => by simp at e; subst e; exact ⟨k, h.1⟩
  | _ :: ks, _ :: vs, h, j + 1, _, e => GoodVs.at h.2 j _ (by simpa using e)
  | [], [], _, j, _, e => by simp at e
  | [], _ :: _, h, _, _, _ => h.elim
  | _ :: _, [], h, _, _, _ => h.elim
section
variable {H : Type} {enc : TypeId × Value → H} {P : Program} {w : World} {base : Nat} {sp : Nat → Bool} {held : Bool}
theorem open_slG {α : Type} [Inhabited α] (D : Nat) (cells : α → List Value) {ks : List Cel} {sz : Nat} (hsz : ks.length = sz) (hcl : ∀ a, (cells a).length = sz) (hdec : ∀ vs, GoodVs ks vs → ∃ a, vs = cells a)
    {t e : TypeId} {v : Value} {r : Reach} {b0 : Nat} {d : DataW H} {ps : List MemPlace} (ht : P.underlying t = some (.slice e)) (hk : ckT P D e = some ks) (hc : P.cellsOf e = sz)
    (hval : Value.okWide P w r b0 t v) (h : DataW.Trod enc P w base sp held t v d ps) :
    v = .slice none 0 0 ∨ ∃ (m : Nat) (g : Nat → α), V0 (σof w) (.sl sz m fun i => (cells (g i)).map AV.v) v ∧ ∀ i, i < m → GoodVs ks (cells (g i)) := by
  obtain ⟨fuel, h⟩ := h
  have hv : v = .slice none 0 0 ∨ ∃ a len cap, v = .slice (some a) len cap ∧ a.spot = none := by
    unfold Value.okWide at hval
    rw [ht] at hval
    simp only at hval
    unfold Cell.okWide at hval
    rw [ht] at hval
    unfold Cell.ok at hval
    rw [ht] at hval
    cases v with
    | slice a len cap =>
      cases a with
      | none => left; match len, cap, hval with | 0, 0, _ => rfl
      | some a => right; exact ⟨a, len, cap, rfl, hval.2.2.2.1⟩
    | _ => exact hval.elim
  rcases hv with rfl | ⟨a, len, cap, rfl, hsp⟩
  · exact .inl rfl
  rcases DataW.trod_slice ht h with ⟨h0, _⟩ | ⟨a', len', cap', elems, rest, n, _, h0, _, hb, hl, hm, hlen, hel, _, _⟩
  · have := (List.cons.inj h0).1; simp at this
  have h1 := (List.cons.inj h0).1
  simp only [Value.slice.injEq, Option.some.injEq] at h1
  obtain ⟨rfl, rfl, rfl⟩ := h1
  have each : ∀ i, i < len → ∃ x : α, GoodVs ks (cells x) ∧ ∀ (j : Nat) (c : Value), (cells x)[j]? = some c → σof w a.block (a.off + i * sz + j) = some c := by
    intro i hi
    have h2 := hel i hi
    rw [List.getElem?_eq_getElem (by omega), Option.bind_eq_some_iff] at h2
    obtain ⟨cs, h3, h4⟩ := h2
    have hg := trod_good D n h4 hk
    obtain ⟨x, rfl⟩ := hdec cs hg
    refine ⟨x, hg, fun j c hj => ?_⟩
    have hjl : j < sz := by have := (List.getElem?_eq_some_iff.1 hj).1; rw [hcl] at this; exact this
    have h5 := (World.cells?_some h3).2.2 j (by rw [hc]; exact hjl)
    rw [hj] at h5
    have e2 : (a.add (i * P.cellsOf e)).add j = ⟨a.block, a.off + i * sz + j, none⟩ := by
      rw [hc]
      unfold Addr.add
      obtain ⟨ab, ao, asp⟩ := a
      simp only at hsp
      subst hsp
      by_cases h0 : i * sz = 0
      · by_cases h1 : j = 0
        · simp [h0, h1]
        · simp [h0, h1]
      · by_cases h1 : j = 0
        · simp [h0, h1]
        · simp [h0, h1]
    rw [e2] at h5
    exact σof_of h5
  refine .inr ⟨len, fun i => if h : i < len then (each i h).choose else default, ?_, fun i hi => ?_⟩
  · refine .sl sz len _ a cap (fun e j => ((cells (if h : e < len then (each e h).choose else default))[j]?).getD (.bool false)) hsp hl (fun i => by simp [hcl]) (fun e j c he hj => ?_) (fun e j c he hj => ?_) (fun e j c he hj => ?_)
    all_goals
      simp only [List.getElem?_map, Option.map_eq_some_iff] at hj
      obtain ⟨y, hy, rfl⟩ := hj
      rw [hy, Option.getD_some]
    · rw [dif_pos he] at hy
      exact (each e he).choose_spec.2 j y hy
    · rw [dif_pos he] at hy
      obtain ⟨k, hk'⟩ := (each e he).choose_spec.1.at j y hy
      exact goodV_one hk'
    · exact .v _
  · show GoodVs ks (cells (if h : i < len then (each i h).choose else default))
    rw [dif_pos hi]
    exact (each i hi).choose_spec.1
end
end Go.Eng

/- A function of an own slice that may be nil: from what it does to nil, and to an empty slice that is not nil. -/
namespace Go.Eng
open Go
set_option linter.unusedSimpArgs false
set_option linter.unusedVariables false
section
variable {P : Program} {Γ : Nat → AV}
theorem VL.one_inv {σ : Store} {φ : Places} {x : AV} {ys : List Value} (h : VL σ φ [x] ys) : ∃ y, ys = [y] ∧ V σ φ x y := by
  match ys, h with
  | [y], h => exact ⟨y, rfl, h.2 0 x y rfl rfl⟩
  | [], h => have := h.1; simp at this
  | _ :: _ :: _, h => have := h.1; simp at this
theorem Contract.nilOr {f : FuncId} {b : Blk} {sz : Nat} {z : List AV} (hz : z.length = sz) {M : List AV} (hM : M.length = sz) (h1 : Contract P Γ f [.v (.slice none 0 0)] [b] { val := .v (.slice none 0 0), upd := [some (some b)] })
    (h2 : Contract P Γ f [.sl sz 0 fun _ => M] [b] { val := .hs 1 0 0, upd := [some (some b)], new := [.arr sz 0 fun _ => z] }) :
    Contract P Γ f [.hs 0 0 0] [b] { val := .hs 1 0 0, upd := [some (some b)], new := [.arr sz 0 fun _ => z] } := by
  intro σ φ w vals hG hV hn hR
  obtain ⟨y, hy, hv⟩ := hV.one_inv
  have hsl : ∀ (A : Option Addr) (cap : Nat), A ≠ none → y = .slice A 0 cap → VL σ φ [.sl sz 0 fun _ => M] vals.toList := fun A cap hA e => by
    rw [hy, e]
    exact .one (.base (.slnil sz 0 _ A cap (fun _ => hM) rfl (fun h => absurd h hA))) .none
  cases hv with
  | base h => cases h
  | hs h hr _ he hx hc => exact h2 σ φ w vals hG (hsl _ _ (by simp) rfl) hn hR
  | hsnil A h he _ =>
    by_cases hA : A = none
    · subst hA
      refine (h1 σ φ w vals hG (by rw [hy]; exact .one (V_v _) .none) hn hR).mono fun e w' ⟨σ', φ', v, e1, e2, e3, e4, e5⟩ => ?_
      have hnb : φ' 1 = none := e5 1 (Nat.le_refl 1)
      have hv := e2.v_eq
      subst hv
      have hg : getH (Res.heap [b] { val := .hs 1 0 0, upd := [some (some b)], new := [.arr sz 0 fun _ => z] }) = updG (getH (Res.heap [b] { val := .v (.slice none 0 0), upd := [some (some b)] })) 1 (some (.arr sz 0 fun _ => z)) := by
        funext k
        have := getH_append (H := [some b]) (bs := [Blk.arr sz 0 fun _ => z]) (k := k)
        exact this
      refine ⟨σ', fresh φ' 1 ⟨0, 0, sz, 0, 0, true⟩, _, e1, .hsnil none fresh_at (Nat.le_refl 0) rfl, ?_, fun k hk => ?_, fun k hk => ?_⟩
      · rw [hg]
        exact e3.virtual (L := ⟨0, 0, sz, 0, 0, true⟩) hnb rfl (some (.arr sz 0 fun _ => z)) (fun b' hb' => by simp at hb'; subst hb'; exact fun _ => hz) (fun _ _ _ h' => by cases h'; rfl)
      · have hk' : k < 1 := hk
        have : k ≠ 1 := by omega
        simp only [fresh, this, if_false]
        exact e4 k hk
      · have hk' : 2 ≤ k := hk
        have : k ≠ 1 := by omega
        simp only [fresh, this, if_false]
        exact e5 k (by show 1 ≤ k; omega)
    · exact h2 σ φ w vals hG (hsl _ _ hA rfl) hn hR
theorem Answers.nilOr {f : FuncId} {b : Blk} {sz : Nat} {z : List AV} (hz : z.length = sz) {M : List AV} (hM : M.length = sz) (h1 : Answers P Γ f [.v (.slice none 0 0)] [b] (.v (.slice none 0 0)) [some b] [])
    (h2 : Answers P Γ f [.sl sz 0 fun _ => M] [b] (.hs 1 0 0) [some b] [.arr sz 0 fun _ => z]) : Answers P Γ f [.hs 0 0 0] [b] (.hs 1 0 0) [some b] [.arr sz 0 fun _ => z] where
  len := rfl
  enters := h1.enters
  ok := h1.ok.nilOr hz hM h2.ok
end
end Go.Eng

/- Lists as the contents of a row of elements. -/
namespace Go.Eng
open Go
set_option linter.unusedSimpArgs false
set_option linter.unusedVariables false
set_option linter.unusedSectionVars false
/-- the cells of a list's elements -/
def lsF {α : Type} [Inhabited α] (c : α → List AV) (l : List α) : Nat → List AV := fun j => c (l.getD j default)
/-- elements of one shape -/
structure Cod {α : Type} (c : α → List AV) (sz : Nat) : Prop where
  len : ∀ x, (c x).length = sz
  mix : ∀ b x y, mixL b (c x) (c y) = c (bif b then x else y)
section
variable {α : Type} [Inhabited α] {c : α → List AV} {sz : Nat}
theorem getD_app {l r : List α} {j : Nat} (h : j < l.length) : (l ++ r).getD j default = l.getD j default := by
  rw [List.getD_eq_getElem?_getD, List.getD_eq_getElem?_getD, List.getElem?_append_left h]
theorem getD_app' {l r : List α} {j : Nat} (h : l.length ≤ j) : (l ++ r).getD j default = r.getD (j - l.length) default := by
  rw [List.getD_eq_getElem?_getD, List.getD_eq_getElem?_getD, List.getElem?_append_right h]
theorem getD_get {l : List α} {j : Nat} (h : j < l.length) : l.getD j default = l[j] := by
  rw [List.getD_eq_getElem?_getD, List.getElem?_eq_getElem h]; rfl
/-- a row that shows a list -/
theorem Cod.row (h : Cod c sz) {N : Nat} {f : Nat → List AV} {l : List α} (hN : N = l.length) (hf : ∀ e, e < N → f e = lsF c l e) : OLe (some (.arr sz N f)) (some (.arr sz l.length (lsF c l))) := by
  subst hN
  exact .some (.arr (fun e he => by rw [hf e he]; exact LeL.refl _) fun e => h.len _)
theorem Cod.mixT (h : Cod c sz) (x y : α) : mixL true (c x) (c y) = c x := h.mix true x y
theorem Cod.mixF (h : Cod c sz) (x y : α) : mixL false (c x) (c y) = c y := h.mix false x y
theorem Cod.one (h : Cod c sz) (x z : α) : chain (c z) 0 [c x] 0 = c x := h.mixT x z
/-- append of one element -/
theorem Cod.app1 (h : Cod c sz) (l junk : List α) (x z : α) {n N : Nat} (hn : n = l.length) (hN : N = l.length + 1) :
    OLe (some (.arr sz N fun j => mixL (decide (j < n)) (lsF c (l ++ junk) j) (chain (c z) 0 [c x] (j - n)))) (some (.arr sz (l ++ [x]).length (lsF c (l ++ [x])))) := by
  subst hn; subst hN
  refine h.row (by simp) fun e he => ?_
  by_cases hl : e < l.length
  · simp only [decide_eq_true hl, lsF, Nat.zero_add, getD_app hl]
    have : chain (c z) 0 [c x] (e - l.length) = c x := by
      rw [show e - l.length = 0 by omega]; exact h.one x z
    rw [this]
    exact h.mixT _ _
  · have he' : e = l.length := by omega
    subst he'
    simp only [decide_eq_false hl, lsF, Nat.zero_add, Nat.sub_self, getD_app' (Nat.le_refl _)]
    rw [h.one]
    exact h.mixF _ _

theorem Cod.app0 (h : Cod c sz) (l : List α) (x z : α) {n N : Nat} (hn : n = l.length) (hN : N = l.length + 1) :
    OLe (some (.arr sz N fun j => mixL (decide (j < n)) (lsF c l j) (chain (c z) 0 [c x] (j - n)))) (some (.arr sz (l ++ [x]).length (lsF c (l ++ [x])))) := by
  have := h.app1 l [] x z hn hN
  rw [List.append_nil] at this
  exact this
theorem lsF_at (c : α → List AV) (l : List α) (j : Nat) : lsF c l j = c (l.getD j default) := rfl
/-- a copy -/
theorem Cod.clone (h : Cod c sz) (l junk : List α) (z : α) {N : Nat} (hn : N = l.length) :
    OLe (some (.arr sz N fun j => mixL (decide (j < 0)) (chain (c z) 0 [] j) (lsF c (l ++ junk) j))) (some (.arr sz l.length (lsF c l))) := by
  refine h.row hn fun e he => ?_
  rw [hn] at he
  simp only [Nat.zero_add, lsF_at, getD_app he]
  rw [decide_eq_false (Nat.not_lt_zero e)]
  exact h.mixF _ _
theorem getD_eraseIdx {l : List α} {i j : Nat} : (l.eraseIdx i).getD j default = if j < i then l.getD j default else l.getD (j + 1) default := by
  rw [List.getD_eq_getElem?_getD, List.getElem?_eraseIdx]
  split <;> rw [List.getD_eq_getElem?_getD]
theorem Cod.mixE (h : Cod c sz) {b : Bool} {x y : List AV} {u v : α} (hx : x = c u) (hy : y = c v) : mixL b x y = c (bif b then u else v) := by rw [hx, hy, h.mix]
/-- one goes -/
theorem Cod.del (h : Cod c sz) (l junk : List α) (z : α) {i n : Nat} (hn : n = l.length) (hi : i < l.length) :
    OLe (some (.arr sz (l ++ junk).length fun j => mixL (decide (i + (n - (i + 1)) ≤ j) && decide (j < i + (n - (i + 1)) + (n - (i + (n - (i + 1)))))) (c z)
      (mixL (decide (i ≤ j) && decide (j < i + (n - (i + 1)))) (lsF c (l ++ junk) (i + 1 + (j - i))) (lsF c (l ++ junk) j))))
      (some (.arr sz (l.eraseIdx i ++ (z :: junk)).length (lsF c (l.eraseIdx i ++ (z :: junk))))) := by
  subst hn
  have hle : (l.eraseIdx i).length = l.length - 1 := List.length_eraseIdx_of_lt hi
  refine h.row (by simp [hle]; omega) fun e he => ?_
  simp only [lsF_at, h.mix]
  refine congrArg c ?_
  simp only [cond_eq_ite, Bool.and_eq_true, decide_eq_true_eq]
  rcases Nat.lt_trichotomy e (l.length - 1) with h1 | h1 | h1
  · rw [if_neg (by omega), getD_app (l := l.eraseIdx i) (by omega), getD_eraseIdx]
    by_cases h2 : i ≤ e
    · rw [if_pos (by omega), if_neg (by omega), show i + 1 + (e - i) = e + 1 by omega, getD_app (by omega)]
    · rw [if_neg (by omega), if_pos (by omega), getD_app (by omega)]
  · rw [if_pos (by omega), getD_app' (l := l.eraseIdx i) (by omega), hle, h1, Nat.sub_self]
    rfl
  · rw [if_neg (by omega), if_neg (by omega), getD_app' (l := l.eraseIdx i) (by omega), getD_app' (by omega), hle]
    rw [show e - (l.length - 1) = (e - l.length) + 1 by omega]
    rfl
theorem chain_nil (z : List AV) (i k : Nat) : chain z i [] k = z := rfl
theorem Cod.chain1 (h : Cod c sz) (z x : α) (k : Nat) : chain (c z) 0 [c x] k = c (bif Nat.beq k 0 then x else z) := h.mix _ x z
/-- a copy, and one more -/
theorem Cod.app2 (h : Cod c sz) (l junk : List α) (x z z' : α) {n N : Nat} (hn : n = l.length) (hN : N = l.length + 1) :
    OLe (some (.arr sz N fun j => mixL (decide (j < n)) (mixL (decide (j < 0)) (chain (c z') 0 [] j) (lsF c (l ++ junk) j)) (chain (c z) 0 [c x] (j - n)))) (some (.arr sz (l ++ [x]).length (lsF c (l ++ [x])))) := by
  subst hn; subst hN
  refine h.row (by simp) fun e he => ?_
  simp only [lsF_at, chain_nil, h.chain1, h.mix]
  refine congrArg c ?_
  rw [decide_eq_false (Nat.not_lt_zero e)]
  simp only [cond_false]
  by_cases hl : e < l.length
  · rw [decide_eq_true hl, getD_app hl, getD_app hl]; rfl
  · have he' : e = l.length := by omega
    subst he'
    rw [decide_eq_false hl, getD_app' (l := l) (r := [x]) (Nat.le_refl _), Nat.sub_self]; rfl
/-- what stands ahead of a place, and what stands behind it -/
theorem Cod.del2 (h : Cod c sz) (l junk : List α) (z : α) {i N : Nat} (hi : i < l.length) (hN : N = l.length - 1) :
    OLe (some (.arr sz N fun j => mixL (decide (j < i)) (mixL (decide (j < 0)) (chain (c z) 0 [] j) (lsF c (l ++ junk) j)) (lsF c (l ++ junk) (i + 1 + (j - i))))) (some (.arr sz (l.eraseIdx i).length (lsF c (l.eraseIdx i)))) := by
  subst hN
  have hle : (l.eraseIdx i).length = l.length - 1 := List.length_eraseIdx_of_lt hi
  refine h.row hle.symm fun e he => ?_
  simp only [lsF_at, chain_nil, h.mix]
  refine congrArg c ?_
  rw [decide_eq_false (Nat.not_lt_zero e), getD_eraseIdx]
  simp only [cond_false]
  by_cases hl : e < i
  · rw [decide_eq_true hl, getD_app (by omega), if_pos hl]; rfl
  · rw [decide_eq_false hl, if_neg hl, show i + 1 + (e - i) = e + 1 by omega, getD_app (l := l) (r := junk) (j := e + 1) (by omega)]; rfl
theorem cl_false {p : Prop} : cl p = false ↔ ¬ p := by
  rw [← Bool.not_eq_true, cl_iff]
theorem sat_brT {β : Type} {t e : Tree β} {Q : β → Prop} : (Tree.br true t e).sat Q = t.sat Q := by simp
theorem sat_brF {β : Type} {t e : Tree β} {Q : β → Prop} : (Tree.br false t e).sat Q = e.sat Q := by simp
theorem sat_chkT {β : Type} {t : Tree β} {Q : β → Prop} : (Tree.chk true t).sat Q = t.sat Q := by simp
end
section
variable {P : Program} {Γ : Nat → AV} {X : Type} {S : X → List AV × Heap} {pre : X → Prop} {O : X → Out} {μ : X → Nat} {n : Nat} {o : Out} {fr : List AV} {H : Heap}
theorem owesN : OwesA S pre O μ n o ⟨.normal, fr, H⟩ = ∃ x', LeL fr (S x').1 ∧ LeH H (S x').2 ∧ pre x' ∧ O x' = o ∧ μ x' < n := rfl
theorem owesX {id : Nat} : OwesA S pre O μ n o ⟨.exit id, fr, H⟩ = (.exit id = o.ex ∧ LeL fr o.fr ∧ LeH H o.H) := rfl
theorem owesR : OwesA S pre O μ n o ⟨.ret, fr, H⟩ = (.ret = o.ex ∧ LeL fr o.fr ∧ LeH H o.H) := rfl
theorem RoundOK.of {m N k : Nat} {b : Code} {live : List Nat} {nils : List (Nat × TypeId)} {s : List AV × Heap} {Q : Out → Prop} {T : List (CT P Γ)} {L : Nat → LSpec} {ip : Bool}
    (hL : ∀ (j : Nat) (b' : Code), (loopBodies b)[j]? = some b' → LoopOK P Γ m N b' (L (k + j))) {t : Tree Out} (e : roundE T L ip m k b live nils N s.1 s.2 = t) (h : t.sat Q) : RoundOK P Γ m N k b live nils s Q :=
  ⟨T, L, ip, hL, by rw [e]; exact h⟩
end
/-- a list as an argument: nil, or a slice -/
def lArg {α : Type} [Inhabited α] (c : α → List AV) (sz : Nat) : Option (List α) → AV
  | none => .v (.slice none 0 0)
  | some l => .sl sz l.length (lsF c l)
theorem V0.slCongr {σ : Store} {sz m m' : Nat} {f f' : Nat → List AV} {v : Value} (h : V0 σ (.sl sz m f) v) (hm : m' = m) (he : ∀ e, e < m → f' e = f e) (hl : ∀ e, (f' e).length = sz) (hk : mkd (f' m') = false) : V0 σ (.sl sz m' f') v := by
  subst hm
  cases h with
  | sl _ _ _ ad cap ys hs hn _ hm ho hv => exact .sl sz _ f' ad cap ys hs hn hl (fun e j c h1 h2 => hm e j c h1 (he e h1 ▸ h2)) (fun e j c h1 h2 => ho e j c h1 (he e h1 ▸ h2)) (fun e j c h1 h2 => hv e j c h1 (he e h1 ▸ h2))
  | slnil _ _ _ A cap _ hn ha => exact .slnil sz _ f' A cap hl hn (fun _ => hk)
section
open Go.ChangeShapes
variable {H : Type} {enc : TypeId × Value → H} {P : Program} {w : World} {base : Nat} {sp : Nat → Bool} {held : Bool}
theorem open_slO {α : Type} [Inhabited α] (D : Nat) (cells : α → List Value) (c : α → List AV) {ks : List Cel} {sz : Nat} (hsz : ks.length = sz) (hcl : ∀ a, (cells a).length = sz) (hc0 : ∀ a, (cells a).map AV.v = c a) (hdec : ∀ vs, GoodVs ks vs → ∃ a, vs = cells a) (hm : mkd (c default) = false)
    {t e : TypeId} {v : Value} {r : Reach} {b0 : Nat} {d : DataW H} {ps : List MemPlace} (ht : P.underlying t = some (.slice e)) (hk : ckT P D e = some ks) (hc : P.cellsOf e = sz)
    (hval : Value.okWide P w r b0 t v) (h : DataW.Trod enc P w base sp held t v d ps) :
    ∃ x : Option (List α), V0 (σof w) (lArg c sz x) v ∧ ∀ l, x = some l → ∀ i, i < l.length → GoodVs ks (cells (l.getD i default)) := by
  rcases open_slG D cells hsz hcl hdec ht hk hc hval h with rfl | ⟨m, g, h1, h2⟩
  · exact ⟨none, .v _, fun l h => by simp at h⟩
  · have hg : ∀ e, e < m → ((List.range m).map g).getD e default = g e := fun e he => by
      rw [List.getD_eq_getElem?_getD, List.getElem?_map, List.getElem?_range he]; rfl
    refine ⟨some ((List.range m).map g), h1.slCongr (by simp) (fun e he => ?_) (fun e => by show (c _).length = sz; rw [← hc0]; simp [hcl]) (by rw [lsF_at, List.getD_eq_getElem?_getD, List.getElem?_eq_none (Nat.le_refl _)]; exact hm), fun l hl i hi => ?_⟩
    · rw [lsF_at, hg e he, hc0]
    · simp only [Option.some.injEq] at hl
      subst hl
      have hi' : i < m := by simpa using hi
      rw [hg i hi']
      exact h2 i hi'
theorem open_slL {α : Type} [Inhabited α] (D : Nat) (cells : α → List Value) (c : α → List AV) {ks : List Cel} {sz : Nat} (hsz : ks.length = sz) (hcl : ∀ a, (cells a).length = sz) (hc0 : ∀ a, (cells a).map AV.v = c a) (hdec : ∀ vs, GoodVs ks vs → ∃ a, vs = cells a) (hm : mkd (c default) = false)
    {t e : TypeId} {v : Value} {r : Reach} {b0 : Nat} {d : DataW H} {ps : List MemPlace} (ht : P.underlying t = some (.slice e)) (hk : ckT P D e = some ks) (hc : P.cellsOf e = sz)
    (hval : Value.okWide P w r b0 t v) (h : DataW.Trod enc P w base sp held t v d ps) :
    ∃ l : List α, V0 (σof w) (.sl sz l.length (lsF c l)) v ∧ ∀ i, i < l.length → GoodVs ks (cells (l.getD i default)) := by
  obtain ⟨x, h1, h2⟩ := open_slO D cells c hsz hcl hc0 hdec hm ht hk hc hval h
  cases x with
  | none =>
    cases h1
    exact ⟨[], .slnil sz 0 _ none 0 (fun e => by show (c _).length = sz; rw [← hc0]; simp [hcl]) rfl (fun _ => hm), fun i hi => absurd hi (Nat.not_lt_zero i)⟩
  | some l => exact ⟨l, h1, h2 l rfl⟩
end
theorem failOK {P : Program} {Γ : Nat → AV} {m N : Nat} {c : Code} {L : Nat → LSpec} (h : ∀ j, ∀ vals H, (L j).spec vals H = .fail) : ∀ (j : Nat) (b : Code), (loopBodies c)[j]? = some b → LoopOK P Γ m N b (L j) := fun j b _ vals H o ho => by
  rw [h j] at ho; simp [Tree.get] at ho
section
variable {P : Program} {Γ : Nat → AV}
theorem Contract.res {f : FuncId} {args : List AV} {Hin : List Blk} {r r' : Res} (h : Contract P Γ f args Hin r) (hv : AV.le r.val r'.val) (hH : LeH (r.heap Hin) (r'.heap Hin)) : Contract P Γ f args Hin r' := by
  intro σ φ w vals hG hV hn hR
  exact (h σ φ w vals hG hV hn hR).mono fun e w' ⟨σ', φ', v, e1, e2, e3, e4, e5⟩ => ⟨σ', φ', v, e1, hv.v e2, e3.le (fun i b' hb => hH.get i b' hb), e4, fun k hk => e5 k (by rw [hH.len]; exact hk)⟩
/-- a copy of a list -/
noncomputable def cloneSpecL {α : Type} [Inhabited α] (c : α → List AV) (sz : Nat) (args : List AV) (Hin : List Blk) : Tree Res := match args with
  | [.hs i e n] => match Hin with
    | [.arr sz' N f] => .chk (Nat.beq i 0 && Nat.beq e 0 && Nat.beq sz' sz) (.chk (cl (n ≤ 1000000000 ∧ ∃ l junk : List α, n = l.length ∧ N = (l ++ junk).length ∧ ∀ e, f e = c ((l ++ junk).getD e default))) (.leaf { val := .hs 1 0 n, new := [.arr sz n f] }))
    | _ => .fail
  | _ => .fail
noncomputable def CT.clone {α : Type} [Inhabited α] {c : α → List AV} {sz : Nat} (hc : Cod c sz) (f : FuncId) (h : ∀ l junk : List α, l.length ≤ 1000000000 → Answers P Γ f [.hs 0 0 l.length] [.arr sz (l ++ junk).length (lsF c (l ++ junk))] (.hs 1 0 l.length) [some (.arr sz (l ++ junk).length (lsF c (l ++ junk)))] [.arr sz l.length (lsF c l)]) : CT P Γ where
  f := f
  spec := cloneSpecL c sz
  enters := (h [] [] (by simp)).enters
  ok := fun args Hin r hr => by
    unfold cloneSpecL at hr
    split at hr
    · split at hr
      · obtain ⟨h1, hr⟩ := Tree.chk_get hr
        obtain ⟨h2, hr⟩ := Tree.chk_get hr
        obtain rfl := Tree.leaf_get hr
        obtain ⟨hn, l, junk, rfl, rfl, hf⟩ := cl_iff.1 h2
        simp only [Bool.and_eq_true] at h1
        obtain rfl := Nat.eq_of_beq_eq_true h1.1.1
        obtain rfl := Nat.eq_of_beq_eq_true h1.1.2
        obtain rfl := Nat.eq_of_beq_eq_true h1.2
        obtain rfl : _ = lsF c (l ++ junk) := funext hf
        refine (h l junk hn).ok.res (.refl _) ⟨OLe.refl _, ?_, trivial⟩
        exact OLe.arr rfl (fun e he => by rw [lsF_at, lsF_at, getD_app he]) (fun e => hc.len _)
      · simp [Tree.get] at hr
    · simp [Tree.get] at hr
end
theorem twoLoops {P : Program} {Γ : Nat → AV} {m N : Nat} {c b b' : Code} {L : Nat → LSpec} (h : loopBodies c = [b, b']) (h0 : LoopOK P Γ m N b (L 0)) (h1 : LoopOK P Γ m N b' (L 1)) : ∀ (j : Nat) (b : Code), (loopBodies c)[j]? = some b → LoopOK P Γ m N b (L j) := by
  intro j b hj
  rw [h] at hj
  match j, hj with
  | 0, hj => simp at hj; subst hj; exact h0
  | 1, hj => simp at hj; subst hj; exact h1
  | j + 2, hj => simp at hj
theorem threeLoops {P : Program} {Γ : Nat → AV} {m N : Nat} {c b b' b2 : Code} {L : Nat → LSpec} (h : loopBodies c = [b, b', b2]) (h0 : LoopOK P Γ m N b (L 0)) (h1 : LoopOK P Γ m N b' (L 1)) (h2 : LoopOK P Γ m N b2 (L 2)) : ∀ (j : Nat) (b : Code), (loopBodies c)[j]? = some b → LoopOK P Γ m N b (L j) := by
  intro j b hj
  rw [h] at hj
  match j, hj with
  | 0, hj => simp at hj; subst hj; exact h0
  | 1, hj => simp at hj; subst hj; exact h1
  | 2, hj => simp at hj; subst hj; exact h2
  | j + 3, hj => simp at hj
end Go.Eng

/- net: items in lists; a copy, one that goes. -/
namespace Go.Eng.N
open Go Go.Eng Go.Proofs
set_option linter.unusedSimpArgs false
set_option linter.unusedVariables false
structure It where
  a : Int
  b : Int
  t : ByteArray
instance : Inhabited It := ⟨⟨0, 0, ⟨#[]⟩⟩⟩
def It.c (x : It) : List AV := [.v (.int .i64 x.a), .v (.int .i64 x.b), .v (.string x.t)]
theorem itCod : Cod It.c 3 := ⟨fun _ => rfl, fun b x y => by cases b <;> rfl⟩
noncomputable def loopOf (c : Code) (j : Nat) : Code := match (loopBodies c)[j]? with | some b => b | none => .skip
abbrev itB (L : List It) : Blk := .arr 3 L.length (lsF It.c L)
theorem runCn (L : List It) : bodyE (P := Try.prog) (Γ := Γn) [] Lno false 8 [.tmp 2] (bodyOf Try.f22) [.v (.slice none 0 0)] [itB L] =
  Tree.leaf (Ans.mk (AV.v (Value.slice none (0 : Nat) (0 : Nat))) [some (Blk.arr (3 : Nat) (List.length L) (lsF It.c L))]) := by kernel_rfl
theorem runCs (L : List It) : bodyE (P := Try.prog) (Γ := Γn) [] Lno false 8 [.tmp 2] (bodyOf Try.f22) [.sl 3 0 fun _ => [.v (.tuple #[]), .v (.tuple #[]), .v (.tuple #[])]] [itB L] =
  Tree.chk true
  (Tree.chk true
    (Tree.leaf
      (Ans.mk (AV.hs (1 : Nat) (0 : Nat) (0 : Nat))
        [some (Blk.arr (3 : Nat) (List.length L) (lsF It.c L)),
          some
            (Blk.arr (3 : Nat) (0 : Nat) fun j =>
              mixL (decide (j < (0 : Nat)))
                (chain
                  [AV.v (Value.int IntKind.i64 (0 : Int)), AV.v (Value.int IntKind.i64 (0 : Int)),
                    AV.v (Value.string (ByteArray.mk #[]))]
                  (0 : Nat) [] ((0 : Nat) + j))
                [AV.v (Value.tuple #[]), AV.v (Value.tuple #[]), AV.v (Value.tuple #[])])]))) := by kernel_rfl
theorem runCh (L : List It) (n : Nat) : bodyE (P := Try.prog) (Γ := Γn) [] Lno false 8 [.tmp 2] (bodyOf Try.f22) [.hs 0 0 n] [itB L] =
  Tree.chk (Nat.blt (0 : Nat) n || Nat.blt (0 : Nat) (List.length L))
  (Tree.chk (roomOk (32 : Nat) ((0 : Nat) + n))
    (Tree.leaf
      (Ans.mk (AV.hs (1 : Nat) (0 : Nat) ((0 : Nat) + n))
        [some (Blk.arr (3 : Nat) (List.length L) (lsF It.c L)),
          some
            (Blk.arr (3 : Nat) ((0 : Nat) + n) fun j =>
              mixL (decide (j < (0 : Nat)))
                (chain
                  [AV.v (Value.int IntKind.i64 (0 : Int)), AV.v (Value.int IntKind.i64 (0 : Int)),
                    AV.v (Value.string (ByteArray.mk #[]))]
                  (0 : Nat) [] ((0 : Nat) + j))
                (lsF It.c L ((0 : Nat) + j)))]))) := by kernel_rfl
theorem room32 {n : Nat} (h : n ≤ 1000000000) : roomOk 32 n = true := by
  unfold roomOk
  exact decide_eq_true (by omega)
theorem ansClone (l junk : List It) (hs : l.length ≤ 1000000000) : Answers Try.prog Γn 22 [.hs 0 0 l.length] [itB (l ++ junk)] (.hs 1 0 l.length) [some (itB (l ++ junk))] [itB l] := by
  by_cases h : 0 < (l ++ junk).length
  · exact answers (fn := Try.f22) (c := bodyOf Try.f22) (ntmps := 8) (results := [.tmp 2]) [] Lno false Try.func22 (by kernel_rfl) (by kernel_rfl) (by kernel_rfl) (by kernel_rfl) (by simp) rfl (noLoops (by kernel_rfl))
      (Meets.of (runCh (l ++ junk) l.length) (by
        simp only [not_true_eq_false, not_false_eq_true, false_implies, true_implies, implies_true, Nat.blt_eq, owesN, owesX, owesR, Bool.not_eq_true', Bool.not_eq_false', Bool.and_eq_false_iff, sat_brT, sat_brF, sat_chkT, cl_iff, cl_false, AV.le_refl, AV.le_any, OLe_refl, OLe_none, Tree.sat_br, Tree.sat_chk, Tree.sat_leaf, Tree.sat_fail, Nat.zero_add, Nat.sub_zero, Int.toNat_natCast, LeH_cons, LeH_nil, LeL_cons, LeL_nil, and_true, true_and, Bool.and_eq_true, Bool.or_eq_true, Bool.or_eq_false_iff, decide_eq_true_eq, decide_eq_false_iff_not, Bool.cond_true_left, Bool.cond_false_right, List.cons_append, List.nil_append, List.map_cons, List.map_nil]
        repeat' (first | apply And.intro | intro _hc)
        all_goals first | omega | exact AV.le_refl _ | exact AV.le_any _ | exact OLe.refl _ | exact OLe.none _ | exact LeH.refl _ | exact LeL.refl _ | exact AV.le.bs _ | exact AV.le.sb _ | exact .inr h | exact room32 (by omega) | exact itCod.clone l junk default rfl | (exfalso; omega) | contradiction
        ))
  · obtain ⟨rfl, rfl⟩ : l = [] ∧ junk = [] := by
      have : (l ++ junk) = [] := List.eq_nil_of_length_eq_zero (by omega)
      simpa using this
    exact Answers.nilOr (sz := 3) (z := It.c default) rfl (M := [.v (.tuple #[]), .v (.tuple #[]), .v (.tuple #[])]) rfl
      (answers (fn := Try.f22) (c := bodyOf Try.f22) (ntmps := 8) (results := [.tmp 2]) [] Lno false Try.func22 (by kernel_rfl) (by kernel_rfl) (by kernel_rfl) (by kernel_rfl) (by simp) rfl (noLoops (by kernel_rfl))
        (Meets.of (runCn _) ⟨.refl _, OLe.refl _, trivial⟩))
      (answers (fn := Try.f22) (c := bodyOf Try.f22) (ntmps := 8) (results := [.tmp 2]) [] Lno false Try.func22 (by kernel_rfl) (by kernel_rfl) (by kernel_rfl) (by kernel_rfl) (by simp) rfl (noLoops (by kernel_rfl))
        (Meets.of (runCs _) ⟨rfl, rfl, .refl _, OLe.refl _, OLe.arr rfl (fun e he => absurd he (Nat.not_lt_zero e)) (fun _ => rfl), trivial⟩))
theorem runDel (i n : Nat) (L : List It) : bodyE (P := Try.prog) (Γ := Γn) [] Lno true 33 [.tmp 6] (bodyOf Try.f21) [.hs 0 0 n, .v (.int .i64 (i : Int)), .v (.int .i64 ((i + 1 : Nat) : Int))] [itB L] =
  Tree.chk
  (decide ((0 : Int) ≤ (↑i : Int)) && decide ((↑i : Int) ≤ (↑(i + (1 : Nat)) : Int)) &&
      decide ((↑(i + (1 : Nat)) : Int) ≤ (↑n : Int)) &&
    decide ((↑n : Int) ≤ (↑n : Int)))
  (Tree.br (decide ((↑i : Int) = (↑(i + (1 : Nat)) : Int)))
    (Tree.leaf (Ans.mk (AV.hs (0 : Nat) (0 : Nat) n) [some (Blk.arr (3 : Nat) (List.length L) (lsF It.c L))]))
    (Tree.chk (decide ((↑(0 : Nat) : Int) ≤ (↑i : Int)) && decide ((0 : Nat) + i ≤ List.length L))
      (Tree.chk
        (decide ((0 : Int) ≤ (↑(i + (1 : Nat)) : Int)) && decide ((↑(i + (1 : Nat)) : Int) ≤ (↑n : Int)) &&
          decide ((0 : Nat) + n ≤ List.length L))
        (Tree.chk (decide ((0 : Nat) + i + (n - (i + (1 : Nat))) ≤ List.length L))
          (Tree.chk
            (decide ((0 : Int) ≤ (↑(i + (n - (i + (1 : Nat)))) : Int)) &&
                decide ((↑(i + (n - (i + (1 : Nat)))) : Int) ≤ (↑n : Int)) &&
              decide ((0 : Nat) + n ≤ List.length L))
            (Tree.leaf
              (Ans.mk (AV.hs (0 : Nat) (0 : Nat) (i + (n - (i + (1 : Nat)))))
                [some
                    (Blk.arr (3 : Nat) (List.length L) fun j =>
                      mixL
                        (decide ((0 : Nat) + (i + (n - (i + (1 : Nat)))) ≤ j) &&
                          decide (j < (0 : Nat) + (i + (n - (i + (1 : Nat)))) + (n - (i + (n - (i + (1 : Nat)))))))
                        [AV.v (Value.int IntKind.i64 (0 : Int)), AV.v (Value.int IntKind.i64 (0 : Int)),
                          AV.v (Value.string (ByteArray.mk #[]))]
                        (mixL (decide ((0 : Nat) + i ≤ j) && decide (j < (0 : Nat) + i + (n - (i + (1 : Nat)))))
                          (lsF It.c L ((0 : Nat) + (i + (1 : Nat)) + (j - ((0 : Nat) + i)))) (lsF It.c L j)))]))))))) := by kernel_rfl
theorem ansDel (l junk : List It) {i : Nat} (hi : i < l.length) : Answers Try.prog Γn 21 [.hs 0 0 l.length, .v (.int .i64 (i : Int)), .v (.int .i64 ((i + 1 : Nat) : Int))] [itB (l ++ junk)] (.hs 0 0 (l.eraseIdx i).length) [some (itB (l.eraseIdx i ++ (default :: junk)))] [] :=
  answers (fn := Try.f21) (c := bodyOf Try.f21) (ntmps := 33) (results := [.tmp 6]) [] Lno true Try.func21 (by kernel_rfl) (by kernel_rfl) (by kernel_rfl) (by kernel_rfl) (by simp) rfl (noLoops (by kernel_rfl))
    (Meets.of (runDel i l.length (l ++ junk)) (by
      have hle : (l.eraseIdx i).length = l.length - 1 := List.length_eraseIdx_of_lt hi
      have hL : (l ++ junk).length = l.length + junk.length := List.length_append
      have hL : (l ++ junk).length = l.length + junk.length := List.length_append
      simp only [not_true_eq_false, not_false_eq_true, false_implies, true_implies, implies_true, Nat.blt_eq, owesN, owesX, owesR, Bool.not_eq_true', Bool.not_eq_false', Bool.and_eq_false_iff, sat_brT, sat_brF, sat_chkT, cl_iff, cl_false, AV.le_refl, AV.le_any, OLe_refl, OLe_none, Tree.sat_br, Tree.sat_chk, Tree.sat_leaf, Tree.sat_fail, Nat.zero_add, Nat.sub_zero, Int.toNat_natCast, LeH_cons, LeH_nil, LeL_cons, LeL_nil, and_true, true_and, Bool.and_eq_true, Bool.or_eq_true, Bool.or_eq_false_iff, decide_eq_true_eq, decide_eq_false_iff_not, Bool.cond_true_left, Bool.cond_false_right, List.cons_append, List.nil_append, List.map_cons, List.map_nil]
      repeat' (first | apply And.intro | intro _hc)
      all_goals first | omega | exact AV.le_refl _ | exact AV.le_any _ | exact OLe.refl _ | exact OLe.none _ | exact LeH.refl _ | exact LeL.refl _ | exact AV.le.bs _ | exact AV.le.sb _ | exact itCod.del l junk default rfl hi | ((rw [hle, show i + (l.length - (i + 1)) = l.length - 1 by omega]; exact AV.le_refl _)) | (exfalso; omega) | contradiction
      ))
end Go.Eng.N

/- net: what each call does. -/
namespace Go.Eng.N
open Go Go.Eng Go.Proofs
set_option linter.unusedSimpArgs false
set_option linter.unusedVariables false
/-- a net's row -/
def netR (i : Nat) (mo lo : Int) (n : Nat) : Blk := .row [.v (.int .i64 mo), .v (.int .i64 lo), .hs i 0 n]
def itV (x : It) : AV := .agg [.v (.int .i64 x.a), .v (.int .i64 x.b), .v (.string x.t)]
theorem runSend (x : It) (mo lo : Int) (n : Nat) (L : List It) : bodyE (P := Try.prog) (Γ := Γn) [S.c20] Lno false 16 [.tmp 4] (bodyOf Try.f9) [.ptr 0 0, itV x] [netR 1 mo lo n, itB L] =
  Tree.br (decide ((65536 : Int) < (↑(ByteArray.size x.t) : Int)))
  (Tree.leaf
    (Ans.mk (AV.v (Value.int IntKind.i64 (2 : Int)))
      [some (Blk.row [AV.v (Value.int IntKind.i64 mo), AV.v (Value.int IntKind.i64 lo), AV.hs (1 : Nat) (0 : Nat) n]),
        some (Blk.arr (3 : Nat) (List.length L) (lsF It.c L))]))
  (Tree.br (decide ((↑n : Int) = mo))
    (Tree.leaf
      (Ans.mk (AV.v (Value.int IntKind.i64 (101 : Int)))
        [some
            (Blk.row
              [AV.v (Value.int IntKind.i64 mo),
                AV.v (Value.int IntKind.i64 (IntKind.wrap IntKind.i64 (lo + (1 : Int)))), AV.hs (1 : Nat) (0 : Nat) n]),
          some (Blk.arr (3 : Nat) (List.length L) (lsF It.c L))]))
    (Tree.chk (roomOk (32 : Nat) (n + (1 : Nat)))
      (Tree.leaf
        (Ans.mk (AV.v (Value.int IntKind.i64 (0 : Int)))
          [some
              (Blk.row
                [AV.v (Value.int IntKind.i64 mo), AV.v (Value.int IntKind.i64 lo),
                  AV.hs (2 : Nat) (0 : Nat) (n + (1 : Nat))]),
            none,
            some
              (Blk.arr (3 : Nat) (n + (1 : Nat)) fun j =>
                mixL (decide (j < n)) (lsF It.c L ((0 : Nat) + j))
                  (chain
                    [AV.v (Value.int IntKind.i64 (0 : Int)), AV.v (Value.int IntKind.i64 (0 : Int)),
                      AV.v (Value.string (ByteArray.mk #[]))]
                    (0 : Nat)
                    [[AV.v (Value.int IntKind.i64 x.a), AV.v (Value.int IntKind.i64 x.b), AV.v (Value.string x.t)]]
                    ((0 : Nat) + (j - n))))])))) := by kernel_rfl
theorem runAt (i : Int) (mo lo : Int) (n : Nat) (L : List It) : bodyE (P := Try.prog) (Γ := Γn) [] Lno false 30 [.cell 4 30, .tmp 5] (bodyOf Try.f17) [.ptr 0 0, .v (.int .i64 i)] [netR 1 mo lo n, itB L] =
  Tree.br (bif decide (i < (0 : Int)) then true else decide ((↑n : Int) ≤ i))
  (Tree.leaf
    (Ans.mk
      (AV.tup
        [AV.agg
            [AV.v (Value.int IntKind.i64 (0 : Int)), AV.v (Value.int IntKind.i64 (0 : Int)),
              AV.v (Value.string (ByteArray.mk #[]))],
          AV.v (Value.int IntKind.i64 (240 : Int))])
      [some (Blk.row [AV.v (Value.int IntKind.i64 mo), AV.v (Value.int IntKind.i64 lo), AV.hs (1 : Nat) (0 : Nat) n]),
        some (Blk.arr (3 : Nat) (List.length L) (lsF It.c L))]))
  (Tree.chk (decide ((0 : Int) ≤ i) && decide (i < (↑n : Int)))
    (Tree.leaf
      (Ans.mk
        (AV.tup
          [AV.agg
              [AV.v (Value.int IntKind.i64 (List.getD L ((0 : Nat) + Int.toNat i) default).a),
                AV.v (Value.int IntKind.i64 (List.getD L ((0 : Nat) + Int.toNat i) default).b),
                AV.v (Value.string (List.getD L ((0 : Nat) + Int.toNat i) default).t)],
            AV.v (Value.int IntKind.i64 (0 : Int))])
        [some (Blk.row [AV.v (Value.int IntKind.i64 mo), AV.v (Value.int IntKind.i64 lo), AV.hs (1 : Nat) (0 : Nat) n]),
          some (Blk.arr (3 : Nat) (List.length L) (lsF It.c L))]))) := by kernel_rfl
theorem runSendR (x : It) (mo lo : Int) (n : Nat) (L : List It) : bodyE (P := Try.prog) (Γ := Γn) [] Lno false 38 [.tmp 4] (bodyOf Try.f13) [.ptr 0 0, itV x] [netR 1 mo lo n, itB L] =
  Tree.br (decide ((65536 : Int) < (↑(ByteArray.size x.t) : Int)))
  (Tree.leaf
    (Ans.mk (AV.v (Value.int IntKind.i64 (2 : Int)))
      [some (Blk.row [AV.v (Value.int IntKind.i64 mo), AV.v (Value.int IntKind.i64 lo), AV.hs (1 : Nat) (0 : Nat) n]),
        some (Blk.arr (3 : Nat) (List.length L) (lsF It.c L))]))
  (Tree.br (decide (mo ≤ (↑n : Int)))
    (Tree.leaf
      (Ans.mk (AV.v (Value.int IntKind.i64 (101 : Int)))
        [some
            (Blk.row
              [AV.v (Value.int IntKind.i64 mo),
                AV.v (Value.int IntKind.i64 (IntKind.wrap IntKind.i64 (lo + (1 : Int)))), AV.hs (1 : Nat) (0 : Nat) n]),
          some (Blk.arr (3 : Nat) (List.length L) (lsF It.c L))]))
    (Tree.chk (roomOk (32 : Nat) ((0 : Nat) + n))
      (Tree.chk (roomOk (32 : Nat) ((0 : Nat) + n + (1 : Nat)))
        (Tree.leaf
          (Ans.mk (AV.v (Value.int IntKind.i64 (0 : Int)))
            [some
                (Blk.row
                  [AV.v (Value.int IntKind.i64 mo), AV.v (Value.int IntKind.i64 lo),
                    AV.hs (2 : Nat) (0 : Nat) ((0 : Nat) + n + (1 : Nat))]),
              some (Blk.arr (3 : Nat) (List.length L) (lsF It.c L)),
              some
                (Blk.arr (3 : Nat) ((0 : Nat) + n + (1 : Nat)) fun j =>
                  mixL (decide (j < (0 : Nat) + n))
                    (mixL (decide ((0 : Nat) + j < (0 : Nat)))
                      (chain
                        [AV.v (Value.int IntKind.i64 (0 : Int)), AV.v (Value.int IntKind.i64 (0 : Int)),
                          AV.v (Value.string (ByteArray.mk #[]))]
                        (0 : Nat) [] ((0 : Nat) + ((0 : Nat) + j)))
                      (lsF It.c L ((0 : Nat) + ((0 : Nat) + j))))
                    (chain
                      [AV.v (Value.int IntKind.i64 (0 : Int)), AV.v (Value.int IntKind.i64 (0 : Int)),
                        AV.v (Value.string (ByteArray.mk #[]))]
                      (0 : Nat)
                      [[AV.v (Value.int IntKind.i64 x.a), AV.v (Value.int IntKind.i64 x.b), AV.v (Value.string x.t)]]
                      ((0 : Nat) + (j - ((0 : Nat) + n)))))]))))) := by kernel_rfl
theorem runTakeR (i : Int) (mo lo : Int) (n : Nat) (L : List It) : bodyE (P := Try.prog) (Γ := Γn) [] Lno false 46 [.cell 4 45, .tmp 5] (bodyOf Try.f14) [.ptr 0 0, .v (.int .i64 i)] [netR 1 mo lo n, itB L] =
  Tree.br (bif decide (i < (0 : Int)) then true else decide ((↑n : Int) ≤ i))
  (Tree.leaf
    (Ans.mk
      (AV.tup
        [AV.agg
            [AV.v (Value.int IntKind.i64 (0 : Int)), AV.v (Value.int IntKind.i64 (0 : Int)),
              AV.v (Value.string (ByteArray.mk #[]))],
          AV.v (Value.int IntKind.i64 (240 : Int))])
      [some (Blk.row [AV.v (Value.int IntKind.i64 mo), AV.v (Value.int IntKind.i64 lo), AV.hs (1 : Nat) (0 : Nat) n]),
        some (Blk.arr (3 : Nat) (List.length L) (lsF It.c L))]))
  (Tree.chk (decide ((0 : Int) ≤ i) && decide (i < (↑n : Int)))
    (Tree.chk (decide ((↑(0 : Nat) : Int) ≤ i) && decide (i ≤ (↑n : Int)))
      (Tree.chk (roomOk (32 : Nat) ((0 : Nat) + Int.toNat i))
        (Tree.chk
          (decide ((0 : Int) ≤ IntKind.wrap IntKind.i64 (i + (1 : Int))) &&
              decide (IntKind.wrap IntKind.i64 (i + (1 : Int)) ≤ (↑n : Int)) &&
            decide ((↑n : Int) ≤ (↑n : Int)))
          (Tree.chk
            (roomOk (32 : Nat) ((0 : Nat) + Int.toNat i + (n - Int.toNat (IntKind.wrap IntKind.i64 (i + (1 : Int))))))
            (Tree.leaf
              (Ans.mk
                (AV.tup
                  [AV.agg
                      [AV.v (Value.int IntKind.i64 (List.getD L ((0 : Nat) + Int.toNat i) default).a),
                        AV.v (Value.int IntKind.i64 (List.getD L ((0 : Nat) + Int.toNat i) default).b),
                        AV.v (Value.string (List.getD L ((0 : Nat) + Int.toNat i) default).t)],
                    AV.v (Value.int IntKind.i64 (0 : Int))])
                [some
                    (Blk.row
                      [AV.v (Value.int IntKind.i64 mo), AV.v (Value.int IntKind.i64 lo),
                        AV.hs (2 : Nat) (0 : Nat)
                          ((0 : Nat) + Int.toNat i + (n - Int.toNat (IntKind.wrap IntKind.i64 (i + (1 : Int)))))]),
                  some (Blk.arr (3 : Nat) (List.length L) (lsF It.c L)),
                  some
                    (Blk.arr (3 : Nat)
                      ((0 : Nat) + Int.toNat i + (n - Int.toNat (IntKind.wrap IntKind.i64 (i + (1 : Int))))) fun j =>
                      mixL (decide (j < (0 : Nat) + Int.toNat i))
                        (mixL (decide ((0 : Nat) + j < (0 : Nat)))
                          (chain
                            [AV.v (Value.int IntKind.i64 (0 : Int)), AV.v (Value.int IntKind.i64 (0 : Int)),
                              AV.v (Value.string (ByteArray.mk #[]))]
                            (0 : Nat) [] ((0 : Nat) + ((0 : Nat) + j)))
                          (lsF It.c L ((0 : Nat) + ((0 : Nat) + j))))
                        (lsF It.c L
                          ((0 : Nat) + Int.toNat (IntKind.wrap IntKind.i64 (i + (1 : Int))) +
                            (j - ((0 : Nat) + Int.toNat i)))))]))))))) := by kernel_rfl
theorem runItems (mo lo : Int) (l junk : List It) (hs : l.length ≤ 1000000000) : bodyE (P := Try.prog) (Γ := Γn) [CT.at 22 (ansClone l junk hs)] Lno false 10 [.tmp 2] (bodyOf Try.f12) [.ptr 0 0] [netR 1 mo lo l.length, itB (l ++ junk)] =
  Tree.chk
  (cl
    (LeL [AV.hs (0 : Nat) (0 : Nat) (List.length l)] [AV.hs (0 : Nat) (0 : Nat) (List.length l)] ∧
      LeH [some (Blk.arr (3 : Nat) (List.length (l ++ junk)) (lsF It.c (l ++ junk)))]
        [some (Blk.arr (3 : Nat) (List.length (l ++ junk)) (lsF It.c (l ++ junk)))]))
  (Tree.leaf
    (Ans.mk (AV.hs (2 : Nat) (0 : Nat) (List.length l))
      [some
          (Blk.row
            [AV.v (Value.int IntKind.i64 mo), AV.v (Value.int IntKind.i64 lo),
              AV.hs (1 : Nat) (0 : Nat) (List.length l)]),
        some (Blk.arr (3 : Nat) (List.length (l ++ junk)) (lsF It.c (l ++ junk))),
        some (Blk.arr (3 : Nat) (List.length l) (lsF It.c l))])) := by kernel_rfl
theorem wrapUp {lo : Int} (h0 : 0 ≤ lo) (h1 : lo ≤ 1000000000) : IntKind.wrap IntKind.i64 (lo + 1) = lo + 1 := by rw [wrap64E]; omega
theorem ansSendLong {x : It} {mo lo : Int} {l junk : List It} (h : 65536 < x.t.size) : Answers Try.prog Γn 9 [.ptr 0 0, itV x] [netR 1 mo lo l.length, itB (l ++ junk)] (.v (.int .i64 2)) [some (netR 1 mo lo l.length), some (itB (l ++ junk))] [] :=
  answers (fn := Try.f9) (c := bodyOf Try.f9) (ntmps := 16) (results := [.tmp 4]) [S.c20] Lno false Try.func9 (by kernel_rfl) (by kernel_rfl) (by kernel_rfl) (by kernel_rfl) (by simp) rfl (noLoops (by kernel_rfl)) <| Meets.of (runSend x mo lo l.length (l ++ junk)) <| by
    simp only [not_true_eq_false, not_false_eq_true, false_implies, true_implies, implies_true, Nat.blt_eq, owesN, owesX, owesR, Bool.not_eq_true', Bool.not_eq_false', Bool.and_eq_false_iff, sat_brT, sat_brF, sat_chkT, cl_iff, cl_false, AV.le_refl, AV.le_any, OLe_refl, OLe_none, Tree.sat_br, Tree.sat_chk, Tree.sat_leaf, Tree.sat_fail, Nat.zero_add, Nat.sub_zero, Int.toNat_natCast, LeH_cons, LeH_nil, LeL_cons, LeL_nil, and_true, true_and, Bool.and_eq_true, Bool.or_eq_true, Bool.or_eq_false_iff, decide_eq_true_eq, decide_eq_false_iff_not, Bool.cond_true_left, Bool.cond_false_right, List.cons_append, List.nil_append, List.map_cons, List.map_nil]
    repeat' (first | apply And.intro | intro _hc)
    all_goals first | omega | exact AV.le_refl _ | exact AV.le_any _ | exact OLe.refl _ | exact OLe.none _ | exact LeH.refl _ | exact LeL.refl _ | exact AV.le.bs _ | exact AV.le.sb _ | (exfalso; omega) | contradiction
theorem ansSendFull {x : It} {mo lo : Int} {l junk : List It} (h : x.t.size ≤ 65536) (h2 : (l.length : Int) = mo) (h0 : 0 ≤ lo) (h1 : lo ≤ 1000000000) : Answers Try.prog Γn 9 [.ptr 0 0, itV x] [netR 1 mo lo l.length, itB (l ++ junk)] (.v (.int .i64 101)) [some (netR 1 mo (lo + 1) l.length), some (itB (l ++ junk))] [] :=
  answers (fn := Try.f9) (c := bodyOf Try.f9) (ntmps := 16) (results := [.tmp 4]) [S.c20] Lno false Try.func9 (by kernel_rfl) (by kernel_rfl) (by kernel_rfl) (by kernel_rfl) (by simp) rfl (noLoops (by kernel_rfl)) <| Meets.of (runSend x mo lo l.length (l ++ junk)) <| by
    simp only [not_true_eq_false, not_false_eq_true, false_implies, true_implies, implies_true, Nat.blt_eq, owesN, owesX, owesR, Bool.not_eq_true', Bool.not_eq_false', Bool.and_eq_false_iff, sat_brT, sat_brF, sat_chkT, cl_iff, cl_false, AV.le_refl, AV.le_any, OLe_refl, OLe_none, Tree.sat_br, Tree.sat_chk, Tree.sat_leaf, Tree.sat_fail, Nat.zero_add, Nat.sub_zero, Int.toNat_natCast, LeH_cons, LeH_nil, LeL_cons, LeL_nil, and_true, true_and, Bool.and_eq_true, Bool.or_eq_true, Bool.or_eq_false_iff, decide_eq_true_eq, decide_eq_false_iff_not, Bool.cond_true_left, Bool.cond_false_right, List.cons_append, List.nil_append, List.map_cons, List.map_nil, wrapUp h0 h1]
    repeat' (first | apply And.intro | intro _hc)
    all_goals first | omega | exact AV.le_refl _ | exact AV.le_any _ | exact OLe.refl _ | exact OLe.none _ | exact LeH.refl _ | exact LeL.refl _ | exact AV.le.bs _ | exact AV.le.sb _ | (exfalso; omega) | contradiction
theorem ansSendOk {x : It} {mo lo : Int} {l junk : List It} (h : x.t.size ≤ 65536) (h2 : (l.length : Int) ≠ mo) (hs : l.length ≤ 999999999) : Answers Try.prog Γn 9 [.ptr 0 0, itV x] [netR 1 mo lo l.length, itB (l ++ junk)] (.v (.int .i64 0)) [some (netR 2 mo lo (l ++ [x]).length), none] [itB (l ++ [x])] :=
  answers (fn := Try.f9) (c := bodyOf Try.f9) (ntmps := 16) (results := [.tmp 4]) [S.c20] Lno false Try.func9 (by kernel_rfl) (by kernel_rfl) (by kernel_rfl) (by kernel_rfl) (by simp) rfl (noLoops (by kernel_rfl)) <| Meets.of (runSend x mo lo l.length (l ++ junk)) <| by
    simp only [not_true_eq_false, not_false_eq_true, false_implies, true_implies, implies_true, Nat.blt_eq, owesN, owesX, owesR, Bool.not_eq_true', Bool.not_eq_false', Bool.and_eq_false_iff, sat_brT, sat_brF, sat_chkT, cl_iff, cl_false, AV.le_refl, AV.le_any, OLe_refl, OLe_none, Tree.sat_br, Tree.sat_chk, Tree.sat_leaf, Tree.sat_fail, Nat.zero_add, Nat.sub_zero, Int.toNat_natCast, LeH_cons, LeH_nil, LeL_cons, LeL_nil, and_true, true_and, Bool.and_eq_true, Bool.or_eq_true, Bool.or_eq_false_iff, decide_eq_true_eq, decide_eq_false_iff_not, Bool.cond_true_left, Bool.cond_false_right, List.cons_append, List.nil_append, List.map_cons, List.map_nil]
    repeat' (first | apply And.intro | intro _hc)
    all_goals first | omega | exact AV.le_refl _ | exact AV.le_any _ | exact OLe.refl _ | exact OLe.none _ | exact LeH.refl _ | exact LeL.refl _ | exact AV.le.bs _ | exact AV.le.sb _ | exact room32 (by omega) | ((rw [List.length_append]; exact OLe.refl _)) | exact itCod.app1 l junk x default rfl rfl | (exfalso; omega) | contradiction
theorem ansAtNo {i : Int} {mo lo : Int} {l junk : List It} (h : i < 0 ∨ (l.length : Int) ≤ i) : Answers Try.prog Γn 17 [.ptr 0 0, .v (.int .i64 i)] [netR 1 mo lo l.length, itB (l ++ junk)] (.tup [itV default, .v (.int .i64 240)]) [some (netR 1 mo lo l.length), some (itB (l ++ junk))] [] :=
  answers (fn := Try.f17) (c := bodyOf Try.f17) (ntmps := 30) (results := [.cell 4 30, .tmp 5]) [] Lno false Try.func17 (by kernel_rfl) (by kernel_rfl) (by kernel_rfl) (by kernel_rfl) (by simp) rfl (noLoops (by kernel_rfl)) <| Meets.of (runAt i mo lo l.length (l ++ junk)) <| by
    simp only [not_true_eq_false, not_false_eq_true, false_implies, true_implies, implies_true, Nat.blt_eq, owesN, owesX, owesR, Bool.not_eq_true', Bool.not_eq_false', Bool.and_eq_false_iff, sat_brT, sat_brF, sat_chkT, cl_iff, cl_false, AV.le_refl, AV.le_any, OLe_refl, OLe_none, Tree.sat_br, Tree.sat_chk, Tree.sat_leaf, Tree.sat_fail, Nat.zero_add, Nat.sub_zero, Int.toNat_natCast, LeH_cons, LeH_nil, LeL_cons, LeL_nil, and_true, true_and, Bool.and_eq_true, Bool.or_eq_true, Bool.or_eq_false_iff, decide_eq_true_eq, decide_eq_false_iff_not, Bool.cond_true_left, Bool.cond_false_right, List.cons_append, List.nil_append, List.map_cons, List.map_nil]
    repeat' (first | apply And.intro | intro _hc)
    all_goals first | omega | exact AV.le_refl _ | exact AV.le_any _ | exact OLe.refl _ | exact OLe.none _ | exact LeH.refl _ | exact LeL.refl _ | exact AV.le.bs _ | exact AV.le.sb _ | (exfalso; omega) | contradiction
theorem ansAt {i : Nat} {mo lo : Int} {l junk : List It} (h : i < l.length) : Answers Try.prog Γn 17 [.ptr 0 0, .v (.int .i64 (i : Int))] [netR 1 mo lo l.length, itB (l ++ junk)] (.tup [itV (l.getD i default), .v (.int .i64 0)]) [some (netR 1 mo lo l.length), some (itB (l ++ junk))] [] :=
  answers (fn := Try.f17) (c := bodyOf Try.f17) (ntmps := 30) (results := [.cell 4 30, .tmp 5]) [] Lno false Try.func17 (by kernel_rfl) (by kernel_rfl) (by kernel_rfl) (by kernel_rfl) (by simp) rfl (noLoops (by kernel_rfl)) <| Meets.of (runAt i mo lo l.length (l ++ junk)) <| by
    simp only [not_true_eq_false, not_false_eq_true, false_implies, true_implies, implies_true, Nat.blt_eq, owesN, owesX, owesR, Bool.not_eq_true', Bool.not_eq_false', Bool.and_eq_false_iff, sat_brT, sat_brF, sat_chkT, cl_iff, cl_false, AV.le_refl, AV.le_any, OLe_refl, OLe_none, Tree.sat_br, Tree.sat_chk, Tree.sat_leaf, Tree.sat_fail, Nat.zero_add, Nat.sub_zero, Int.toNat_natCast, LeH_cons, LeH_nil, LeL_cons, LeL_nil, and_true, true_and, Bool.and_eq_true, Bool.or_eq_true, Bool.or_eq_false_iff, decide_eq_true_eq, decide_eq_false_iff_not, Bool.cond_true_left, Bool.cond_false_right, List.cons_append, List.nil_append, List.map_cons, List.map_nil, getD_app h]
    repeat' (first | apply And.intro | intro _hc)
    all_goals first | omega | exact AV.le_refl _ | exact AV.le_any _ | exact OLe.refl _ | exact OLe.none _ | exact LeH.refl _ | exact LeL.refl _ | exact AV.le.bs _ | exact AV.le.sb _ | (exfalso; omega) | contradiction
theorem runTakeNo (i : Int) (mo lo : Int) (l junk : List It) (h : i < 0 ∨ (l.length : Int) ≤ i) : bodyE (P := Try.prog) (Γ := Γn) [CT.at 17 (ansAtNo (i := i) (mo := mo) (lo := lo) (l := l) (junk := junk) h)] Lno false 29 [.cell 4 30, .tmp 5] (bodyOf Try.f11) [.ptr 0 0, .v (.int .i64 i)] [netR 1 mo lo l.length, itB (l ++ junk)] =
  Tree.chk
  (cl
    (LeL [AV.ptr (0 : Nat) (0 : Nat), AV.v (Value.int IntKind.i64 i)]
        [AV.ptr (0 : Nat) (0 : Nat), AV.v (Value.int IntKind.i64 i)] ∧
      LeH
        [some
            (Blk.row
              [AV.v (Value.int IntKind.i64 mo), AV.v (Value.int IntKind.i64 lo),
                AV.hs (1 : Nat) (0 : Nat) (List.length l)]),
          some (Blk.arr (3 : Nat) (List.length (l ++ junk)) (lsF It.c (l ++ junk)))]
        [some
            (Blk.row
              [AV.v (Value.int IntKind.i64 mo), AV.v (Value.int IntKind.i64 lo),
                AV.hs (1 : Nat) (0 : Nat) (List.length l)]),
          some (Blk.arr (3 : Nat) (List.length (l ++ junk)) (lsF It.c (l ++ junk)))]))
  (Tree.br false Tree.fail
    (Tree.leaf
      (Ans.mk
        (AV.tup
          [AV.agg
              [AV.v (Value.int IntKind.i64 (0 : Int)), AV.v (Value.int IntKind.i64 (0 : Int)),
                AV.v (Value.string (ByteArray.mk #[]))],
            AV.v (Value.int IntKind.i64 (240 : Int))])
        [some
            (Blk.row
              [AV.v (Value.int IntKind.i64 mo), AV.v (Value.int IntKind.i64 lo),
                AV.hs (1 : Nat) (0 : Nat) (List.length l)]),
          some (Blk.arr (3 : Nat) (List.length (l ++ junk)) (lsF It.c (l ++ junk)))]))) := by kernel_rfl
theorem runTake (i : Nat) (mo lo : Int) (l junk : List It) (h : i < l.length) : bodyE (P := Try.prog) (Γ := Γn) [CT.at 17 (ansAt (i := i) (mo := mo) (lo := lo) (l := l) (junk := junk) h), CT.at 21 (ansDel l junk h)] Lno false 29 [.cell 4 30, .tmp 5] (bodyOf Try.f11) [.ptr 0 0, .v (.int .i64 (i : Int))] [netR 1 mo lo l.length, itB (l ++ junk)] =
  Tree.chk
  (cl
    (LeL [AV.ptr (0 : Nat) (0 : Nat), AV.v (Value.int IntKind.i64 (↑i : Int))]
        [AV.ptr (0 : Nat) (0 : Nat), AV.v (Value.int IntKind.i64 (↑i : Int))] ∧
      LeH
        [some
            (Blk.row
              [AV.v (Value.int IntKind.i64 mo), AV.v (Value.int IntKind.i64 lo),
                AV.hs (1 : Nat) (0 : Nat) (List.length l)]),
          some (Blk.arr (3 : Nat) (List.length (l ++ junk)) (lsF It.c (l ++ junk)))]
        [some
            (Blk.row
              [AV.v (Value.int IntKind.i64 mo), AV.v (Value.int IntKind.i64 lo),
                AV.hs (1 : Nat) (0 : Nat) (List.length l)]),
          some (Blk.arr (3 : Nat) (List.length (l ++ junk)) (lsF It.c (l ++ junk)))]))
  (Tree.br true
    (Tree.chk
      (cl
        (LeL
            [AV.hs (0 : Nat) (0 : Nat) (List.length l), AV.v (Value.int IntKind.i64 (↑i : Int)),
              AV.v (Value.int IntKind.i64 (IntKind.wrap IntKind.i64 ((↑i : Int) + (1 : Int))))]
            [AV.hs (0 : Nat) (0 : Nat) (List.length l), AV.v (Value.int IntKind.i64 (↑i : Int)),
              AV.v (Value.int IntKind.i64 (↑(i + (1 : Nat)) : Int))] ∧
          LeH [some (Blk.arr (3 : Nat) (List.length (l ++ junk)) (lsF It.c (l ++ junk)))]
            [some (Blk.arr (3 : Nat) (List.length (l ++ junk)) (lsF It.c (l ++ junk)))]))
      (Tree.leaf
        (Ans.mk
          (AV.tup
            [AV.agg
                [AV.v (Value.int IntKind.i64 (List.getD l i default).a),
                  AV.v (Value.int IntKind.i64 (List.getD l i default).b),
                  AV.v (Value.string (List.getD l i default).t)],
              AV.v (Value.int IntKind.i64 (0 : Int))])
          [some
              (Blk.row
                [AV.v (Value.int IntKind.i64 mo), AV.v (Value.int IntKind.i64 lo),
                  AV.hs (1 : Nat) (0 : Nat) (List.length (List.eraseIdx l i))]),
            some
              (Blk.arr (3 : Nat) (List.length (List.eraseIdx l i ++ default :: junk))
                (lsF It.c (List.eraseIdx l i ++ default :: junk)))])))
    (Tree.leaf
      (Ans.mk
        (AV.tup
          [AV.agg
              [AV.v (Value.int IntKind.i64 (List.getD l i default).a),
                AV.v (Value.int IntKind.i64 (List.getD l i default).b), AV.v (Value.string (List.getD l i default).t)],
            AV.v (Value.int IntKind.i64 (0 : Int))])
        [some
            (Blk.row
              [AV.v (Value.int IntKind.i64 mo), AV.v (Value.int IntKind.i64 lo),
                AV.hs (1 : Nat) (0 : Nat) (List.length l)]),
          some (Blk.arr (3 : Nat) (List.length (l ++ junk)) (lsF It.c (l ++ junk)))]))) := by kernel_rfl
theorem runDblNo (i : Int) (mo lo : Int) (l junk : List It) (h : i < 0 ∨ (l.length : Int) ≤ i) : bodyE (P := Try.prog) (Γ := Γn) [CT.at 17 (ansAtNo (i := i) (mo := mo) (lo := lo) (l := l) (junk := junk) h)] Lno false 19 [.tmp 4] (bodyOf Try.f15) [.ptr 0 0, .v (.int .i64 i)] [netR 1 mo lo l.length, itB (l ++ junk)] =
  Tree.chk
  (cl
    (LeL [AV.ptr (0 : Nat) (0 : Nat), AV.v (Value.int IntKind.i64 i)]
        [AV.ptr (0 : Nat) (0 : Nat), AV.v (Value.int IntKind.i64 i)] ∧
      LeH
        [some
            (Blk.row
              [AV.v (Value.int IntKind.i64 mo), AV.v (Value.int IntKind.i64 lo),
                AV.hs (1 : Nat) (0 : Nat) (List.length l)]),
          some (Blk.arr (3 : Nat) (List.length (l ++ junk)) (lsF It.c (l ++ junk)))]
        [some
            (Blk.row
              [AV.v (Value.int IntKind.i64 mo), AV.v (Value.int IntKind.i64 lo),
                AV.hs (1 : Nat) (0 : Nat) (List.length l)]),
          some (Blk.arr (3 : Nat) (List.length (l ++ junk)) (lsF It.c (l ++ junk)))]))
  (Tree.br true
    (Tree.leaf
      (Ans.mk (AV.v (Value.int IntKind.i64 (240 : Int)))
        [some
            (Blk.row
              [AV.v (Value.int IntKind.i64 mo), AV.v (Value.int IntKind.i64 lo),
                AV.hs (1 : Nat) (0 : Nat) (List.length l)]),
          some (Blk.arr (3 : Nat) (List.length (l ++ junk)) (lsF It.c (l ++ junk)))]))
    Tree.fail) := by kernel_rfl
theorem runDbl' (i : Nat) (mo lo : Int) (l junk : List It) (h : i < l.length) : bodyE (P := Try.prog) (Γ := Γn) [CT.at 17 (ansAt (i := i) (mo := mo) (lo := lo) (l := l) (junk := junk) h), S.c20] Lno false 19 [.tmp 4] (bodyOf Try.f15) [.ptr 0 0, .v (.int .i64 (i : Int))] [netR 1 mo lo l.length, itB (l ++ junk)] =
  Tree.chk
  (cl
    (LeL [AV.ptr (0 : Nat) (0 : Nat), AV.v (Value.int IntKind.i64 (↑i : Int))]
        [AV.ptr (0 : Nat) (0 : Nat), AV.v (Value.int IntKind.i64 (↑i : Int))] ∧
      LeH
        [some
            (Blk.row
              [AV.v (Value.int IntKind.i64 mo), AV.v (Value.int IntKind.i64 lo),
                AV.hs (1 : Nat) (0 : Nat) (List.length l)]),
          some (Blk.arr (3 : Nat) (List.length (l ++ junk)) (lsF It.c (l ++ junk)))]
        [some
            (Blk.row
              [AV.v (Value.int IntKind.i64 mo), AV.v (Value.int IntKind.i64 lo),
                AV.hs (1 : Nat) (0 : Nat) (List.length l)]),
          some (Blk.arr (3 : Nat) (List.length (l ++ junk)) (lsF It.c (l ++ junk)))]))
  (Tree.br false
    (Tree.leaf
      (Ans.mk (AV.v (Value.int IntKind.i64 (0 : Int)))
        [some
            (Blk.row
              [AV.v (Value.int IntKind.i64 mo), AV.v (Value.int IntKind.i64 lo),
                AV.hs (1 : Nat) (0 : Nat) (List.length l)]),
          some (Blk.arr (3 : Nat) (List.length (l ++ junk)) (lsF It.c (l ++ junk)))]))
    (Tree.br (decide ((↑(List.length l) : Int) = mo))
      (Tree.leaf
        (Ans.mk (AV.v (Value.int IntKind.i64 (101 : Int)))
          [some
              (Blk.row
                [AV.v (Value.int IntKind.i64 mo),
                  AV.v (Value.int IntKind.i64 (IntKind.wrap IntKind.i64 (lo + (1 : Int)))),
                  AV.hs (1 : Nat) (0 : Nat) (List.length l)]),
            some (Blk.arr (3 : Nat) (List.length (l ++ junk)) (lsF It.c (l ++ junk)))]))
      (Tree.chk (roomOk (32 : Nat) (List.length l + (1 : Nat)))
        (Tree.leaf
          (Ans.mk (AV.v (Value.int IntKind.i64 (0 : Int)))
            [some
                (Blk.row
                  [AV.v (Value.int IntKind.i64 mo), AV.v (Value.int IntKind.i64 lo),
                    AV.hs (2 : Nat) (0 : Nat) (List.length l + (1 : Nat))]),
              none,
              some
                (Blk.arr (3 : Nat) (List.length l + (1 : Nat)) fun j =>
                  mixL (decide (j < List.length l)) (lsF It.c (l ++ junk) ((0 : Nat) + j))
                    (chain
                      [AV.v (Value.int IntKind.i64 (0 : Int)), AV.v (Value.int IntKind.i64 (0 : Int)),
                        AV.v (Value.string (ByteArray.mk #[]))]
                      (0 : Nat)
                      [[AV.v (Value.int IntKind.i64 (List.getD l i default).a),
                          AV.v (Value.int IntKind.i64 (List.getD l i default).b),
                          AV.v (Value.string (List.getD l i default).t)]]
                      ((0 : Nat) + (j - List.length l))))]))))) := by kernel_rfl
end Go.Eng.N

/- net: what each call does, second part. -/
namespace Go.Eng.N
open Go Go.Eng Go.Proofs
set_option linter.unusedSimpArgs false
set_option linter.unusedVariables false
theorem wrapUpN {i : Nat} (h : i ≤ 1000000000) : IntKind.wrap IntKind.i64 ((i : Int) + 1) = ((i + 1 : Nat) : Int) := by rw [wrap64E]; omega
theorem ansTakeNo {i : Int} {mo lo : Int} {l junk : List It} (h : i < 0 ∨ (l.length : Int) ≤ i) : Answers Try.prog Γn 11 [.ptr 0 0, .v (.int .i64 i)] [netR 1 mo lo l.length, itB (l ++ junk)] (.tup [itV default, .v (.int .i64 240)]) [some (netR 1 mo lo l.length), some (itB (l ++ junk))] [] :=
  answers (fn := Try.f11) (c := bodyOf Try.f11) (ntmps := 29) (results := [.cell 4 30, .tmp 5]) [CT.at 17 (ansAtNo (i := i) (mo := mo) (lo := lo) (l := l) (junk := junk) h)] Lno false Try.func11 (by kernel_rfl) (by kernel_rfl) (by kernel_rfl) (by kernel_rfl) (by simp) rfl (noLoops (by kernel_rfl)) <| Meets.of (runTakeNo i mo lo l junk h) <| by
    simp only [not_true_eq_false, not_false_eq_true, false_implies, true_implies, implies_true, Nat.blt_eq, owesN, owesX, owesR, Bool.not_eq_true', Bool.not_eq_false', Bool.and_eq_false_iff, sat_brT, sat_brF, sat_chkT, cl_iff, cl_false, AV.le_refl, AV.le_any, OLe_refl, OLe_none, Tree.sat_br, Tree.sat_chk, Tree.sat_leaf, Tree.sat_fail, Nat.zero_add, Nat.sub_zero, Int.toNat_natCast, LeH_cons, LeH_nil, LeL_cons, LeL_nil, and_true, true_and, Bool.and_eq_true, Bool.or_eq_true, Bool.or_eq_false_iff, decide_eq_true_eq, decide_eq_false_iff_not, Bool.cond_true_left, Bool.cond_false_right, List.cons_append, List.nil_append, List.map_cons, List.map_nil]
    repeat' (first | apply And.intro | intro _hc)
    all_goals first | omega | exact AV.le_refl _ | exact AV.le_any _ | exact OLe.refl _ | exact OLe.none _ | exact LeH.refl _ | exact LeL.refl _ | exact AV.le.bs _ | exact AV.le.sb _ | (exfalso; omega) | contradiction
theorem ansTake {i : Nat} {mo lo : Int} {l junk : List It} (h : i < l.length) (hs : l.length ≤ 999999999) : Answers Try.prog Γn 11 [.ptr 0 0, .v (.int .i64 (i : Int))] [netR 1 mo lo l.length, itB (l ++ junk)] (.tup [itV (l.getD i default), .v (.int .i64 0)]) [some (netR 1 mo lo (l.eraseIdx i).length), some (itB (l.eraseIdx i ++ default :: junk))] [] :=
  answers (fn := Try.f11) (c := bodyOf Try.f11) (ntmps := 29) (results := [.cell 4 30, .tmp 5]) [CT.at 17 (ansAt (i := i) (mo := mo) (lo := lo) (l := l) (junk := junk) h), CT.at 21 (ansDel l junk h)] Lno false Try.func11 (by kernel_rfl) (by kernel_rfl) (by kernel_rfl) (by kernel_rfl) (by simp) rfl (noLoops (by kernel_rfl)) <| Meets.of (runTake i mo lo l junk h) <| by
    simp only [not_true_eq_false, not_false_eq_true, false_implies, true_implies, implies_true, Nat.blt_eq, owesN, owesX, owesR, Bool.not_eq_true', Bool.not_eq_false', Bool.and_eq_false_iff, sat_brT, sat_brF, sat_chkT, cl_iff, cl_false, AV.le_refl, AV.le_any, OLe_refl, OLe_none, Tree.sat_br, Tree.sat_chk, Tree.sat_leaf, Tree.sat_fail, Nat.zero_add, Nat.sub_zero, Int.toNat_natCast, LeH_cons, LeH_nil, LeL_cons, LeL_nil, and_true, true_and, Bool.and_eq_true, Bool.or_eq_true, Bool.or_eq_false_iff, decide_eq_true_eq, decide_eq_false_iff_not, Bool.cond_true_left, Bool.cond_false_right, List.cons_append, List.nil_append, List.map_cons, List.map_nil, wrapUpN (show i ≤ 1000000000 by omega)]
    repeat' (first | apply And.intro | intro _hc)
    all_goals first | omega | exact AV.le_refl _ | exact AV.le_any _ | exact OLe.refl _ | exact OLe.none _ | exact LeH.refl _ | exact LeL.refl _ | exact AV.le.bs _ | exact AV.le.sb _ | (exfalso; omega) | contradiction
theorem ansDblNo {i : Int} {mo lo : Int} {l junk : List It} (h : i < 0 ∨ (l.length : Int) ≤ i) : Answers Try.prog Γn 15 [.ptr 0 0, .v (.int .i64 i)] [netR 1 mo lo l.length, itB (l ++ junk)] (.v (.int .i64 240)) [some (netR 1 mo lo l.length), some (itB (l ++ junk))] [] :=
  answers (fn := Try.f15) (c := bodyOf Try.f15) (ntmps := 19) (results := [.tmp 4]) [CT.at 17 (ansAtNo (i := i) (mo := mo) (lo := lo) (l := l) (junk := junk) h)] Lno false Try.func15 (by kernel_rfl) (by kernel_rfl) (by kernel_rfl) (by kernel_rfl) (by simp) rfl (noLoops (by kernel_rfl)) <| Meets.of (runDblNo i mo lo l junk h) <| by
    simp only [not_true_eq_false, not_false_eq_true, false_implies, true_implies, implies_true, Nat.blt_eq, owesN, owesX, owesR, Bool.not_eq_true', Bool.not_eq_false', Bool.and_eq_false_iff, sat_brT, sat_brF, sat_chkT, cl_iff, cl_false, AV.le_refl, AV.le_any, OLe_refl, OLe_none, Tree.sat_br, Tree.sat_chk, Tree.sat_leaf, Tree.sat_fail, Nat.zero_add, Nat.sub_zero, Int.toNat_natCast, LeH_cons, LeH_nil, LeL_cons, LeL_nil, and_true, true_and, Bool.and_eq_true, Bool.or_eq_true, Bool.or_eq_false_iff, decide_eq_true_eq, decide_eq_false_iff_not, Bool.cond_true_left, Bool.cond_false_right, List.cons_append, List.nil_append, List.map_cons, List.map_nil]
    repeat' (first | apply And.intro | intro _hc)
    all_goals first | omega | exact AV.le_refl _ | exact AV.le_any _ | exact OLe.refl _ | exact OLe.none _ | exact LeH.refl _ | exact LeL.refl _ | exact AV.le.bs _ | exact AV.le.sb _ | (exfalso; omega) | contradiction
theorem ansDblFull {i : Nat} {mo lo : Int} {l junk : List It} (h : i < l.length) (h2 : (l.length : Int) = mo) (h0 : 0 ≤ lo) (h1 : lo ≤ 1000000000) : Answers Try.prog Γn 15 [.ptr 0 0, .v (.int .i64 (i : Int))] [netR 1 mo lo l.length, itB (l ++ junk)] (.v (.int .i64 101)) [some (netR 1 mo (lo + 1) l.length), some (itB (l ++ junk))] [] :=
  answers (fn := Try.f15) (c := bodyOf Try.f15) (ntmps := 19) (results := [.tmp 4]) [CT.at 17 (ansAt (i := i) (mo := mo) (lo := lo) (l := l) (junk := junk) h), S.c20] Lno false Try.func15 (by kernel_rfl) (by kernel_rfl) (by kernel_rfl) (by kernel_rfl) (by simp) rfl (noLoops (by kernel_rfl)) <| Meets.of (runDbl' i mo lo l junk h) <| by
    simp only [not_true_eq_false, not_false_eq_true, false_implies, true_implies, implies_true, Nat.blt_eq, owesN, owesX, owesR, Bool.not_eq_true', Bool.not_eq_false', Bool.and_eq_false_iff, sat_brT, sat_brF, sat_chkT, cl_iff, cl_false, AV.le_refl, AV.le_any, OLe_refl, OLe_none, Tree.sat_br, Tree.sat_chk, Tree.sat_leaf, Tree.sat_fail, Nat.zero_add, Nat.sub_zero, Int.toNat_natCast, LeH_cons, LeH_nil, LeL_cons, LeL_nil, and_true, true_and, Bool.and_eq_true, Bool.or_eq_true, Bool.or_eq_false_iff, decide_eq_true_eq, decide_eq_false_iff_not, Bool.cond_true_left, Bool.cond_false_right, List.cons_append, List.nil_append, List.map_cons, List.map_nil, wrapUp h0 h1]
    repeat' (first | apply And.intro | intro _hc)
    all_goals first | omega | exact AV.le_refl _ | exact AV.le_any _ | exact OLe.refl _ | exact OLe.none _ | exact LeH.refl _ | exact LeL.refl _ | exact AV.le.bs _ | exact AV.le.sb _ | (exfalso; omega) | contradiction
theorem ansDblOk {i : Nat} {mo lo : Int} {l junk : List It} (h : i < l.length) (h2 : (l.length : Int) ≠ mo) (hs : l.length ≤ 999999999) : Answers Try.prog Γn 15 [.ptr 0 0, .v (.int .i64 (i : Int))] [netR 1 mo lo l.length, itB (l ++ junk)] (.v (.int .i64 0)) [some (netR 2 mo lo (l ++ [l.getD i default]).length), none] [itB (l ++ [l.getD i default])] :=
  answers (fn := Try.f15) (c := bodyOf Try.f15) (ntmps := 19) (results := [.tmp 4]) [CT.at 17 (ansAt (i := i) (mo := mo) (lo := lo) (l := l) (junk := junk) h), S.c20] Lno false Try.func15 (by kernel_rfl) (by kernel_rfl) (by kernel_rfl) (by kernel_rfl) (by simp) rfl (noLoops (by kernel_rfl)) <| Meets.of (runDbl' i mo lo l junk h) <| by
    simp only [not_true_eq_false, not_false_eq_true, false_implies, true_implies, implies_true, Nat.blt_eq, owesN, owesX, owesR, Bool.not_eq_true', Bool.not_eq_false', Bool.and_eq_false_iff, sat_brT, sat_brF, sat_chkT, cl_iff, cl_false, AV.le_refl, AV.le_any, OLe_refl, OLe_none, Tree.sat_br, Tree.sat_chk, Tree.sat_leaf, Tree.sat_fail, Nat.zero_add, Nat.sub_zero, Int.toNat_natCast, LeH_cons, LeH_nil, LeL_cons, LeL_nil, and_true, true_and, Bool.and_eq_true, Bool.or_eq_true, Bool.or_eq_false_iff, decide_eq_true_eq, decide_eq_false_iff_not, Bool.cond_true_left, Bool.cond_false_right, List.cons_append, List.nil_append, List.map_cons, List.map_nil]
    repeat' (first | apply And.intro | intro _hc)
    all_goals first | omega | exact AV.le_refl _ | exact AV.le_any _ | exact OLe.refl _ | exact OLe.none _ | exact LeH.refl _ | exact LeL.refl _ | exact AV.le.bs _ | exact AV.le.sb _ | exact room32 (by omega) | ((rw [List.length_append]; exact OLe.refl _)) | exact itCod.app1 l junk _ default rfl rfl | (exfalso; omega) | contradiction
theorem ansItems {mo lo : Int} {l junk : List It} (hs : l.length ≤ 1000000000) : Answers Try.prog Γn 12 [.ptr 0 0] [netR 1 mo lo l.length, itB (l ++ junk)] (.hs 2 0 l.length) [some (netR 1 mo lo l.length), some (itB (l ++ junk))] [itB l] :=
  answers (fn := Try.f12) (c := bodyOf Try.f12) (ntmps := 10) (results := [.tmp 2]) [CT.at 22 (ansClone l junk hs)] Lno false Try.func12 (by kernel_rfl) (by kernel_rfl) (by kernel_rfl) (by kernel_rfl) (by simp) rfl (noLoops (by kernel_rfl)) <| Meets.of (runItems mo lo l junk hs) <| by
    simp only [not_true_eq_false, not_false_eq_true, false_implies, true_implies, implies_true, Nat.blt_eq, owesN, owesX, owesR, Bool.not_eq_true', Bool.not_eq_false', Bool.and_eq_false_iff, sat_brT, sat_brF, sat_chkT, cl_iff, cl_false, AV.le_refl, AV.le_any, OLe_refl, OLe_none, Tree.sat_br, Tree.sat_chk, Tree.sat_leaf, Tree.sat_fail, Nat.zero_add, Nat.sub_zero, Int.toNat_natCast, LeH_cons, LeH_nil, LeL_cons, LeL_nil, and_true, true_and, Bool.and_eq_true, Bool.or_eq_true, Bool.or_eq_false_iff, decide_eq_true_eq, decide_eq_false_iff_not, Bool.cond_true_left, Bool.cond_false_right, List.cons_append, List.nil_append, List.map_cons, List.map_nil]
    repeat' (first | apply And.intro | intro _hc)
    all_goals first | omega | exact AV.le_refl _ | exact AV.le_any _ | exact OLe.refl _ | exact OLe.none _ | exact LeH.refl _ | exact LeL.refl _ | exact AV.le.bs _ | exact AV.le.sb _ | (exfalso; omega) | contradiction
theorem ansSendRLong {x : It} {mo lo : Int} {l junk : List It} (h : 65536 < x.t.size) : Answers Try.prog Γn 13 [.ptr 0 0, itV x] [netR 1 mo lo l.length, itB (l ++ junk)] (.v (.int .i64 2)) [some (netR 1 mo lo l.length), some (itB (l ++ junk))] [] :=
  answers (fn := Try.f13) (c := bodyOf Try.f13) (ntmps := 38) (results := [.tmp 4]) [] Lno false Try.func13 (by kernel_rfl) (by kernel_rfl) (by kernel_rfl) (by kernel_rfl) (by simp) rfl (noLoops (by kernel_rfl)) <| Meets.of (runSendR x mo lo l.length (l ++ junk)) <| by
    simp only [not_true_eq_false, not_false_eq_true, false_implies, true_implies, implies_true, Nat.blt_eq, owesN, owesX, owesR, Bool.not_eq_true', Bool.not_eq_false', Bool.and_eq_false_iff, sat_brT, sat_brF, sat_chkT, cl_iff, cl_false, AV.le_refl, AV.le_any, OLe_refl, OLe_none, Tree.sat_br, Tree.sat_chk, Tree.sat_leaf, Tree.sat_fail, Nat.zero_add, Nat.sub_zero, Int.toNat_natCast, LeH_cons, LeH_nil, LeL_cons, LeL_nil, and_true, true_and, Bool.and_eq_true, Bool.or_eq_true, Bool.or_eq_false_iff, decide_eq_true_eq, decide_eq_false_iff_not, Bool.cond_true_left, Bool.cond_false_right, List.cons_append, List.nil_append, List.map_cons, List.map_nil]
    repeat' (first | apply And.intro | intro _hc)
    all_goals first | omega | exact AV.le_refl _ | exact AV.le_any _ | exact OLe.refl _ | exact OLe.none _ | exact LeH.refl _ | exact LeL.refl _ | exact AV.le.bs _ | exact AV.le.sb _ | (exfalso; omega) | contradiction
theorem ansSendRFull {x : It} {mo lo : Int} {l junk : List It} (h : x.t.size ≤ 65536) (h2 : mo ≤ (l.length : Int)) (h0 : 0 ≤ lo) (h1 : lo ≤ 1000000000) : Answers Try.prog Γn 13 [.ptr 0 0, itV x] [netR 1 mo lo l.length, itB (l ++ junk)] (.v (.int .i64 101)) [some (netR 1 mo (lo + 1) l.length), some (itB (l ++ junk))] [] :=
  answers (fn := Try.f13) (c := bodyOf Try.f13) (ntmps := 38) (results := [.tmp 4]) [] Lno false Try.func13 (by kernel_rfl) (by kernel_rfl) (by kernel_rfl) (by kernel_rfl) (by simp) rfl (noLoops (by kernel_rfl)) <| Meets.of (runSendR x mo lo l.length (l ++ junk)) <| by
    simp only [not_true_eq_false, not_false_eq_true, false_implies, true_implies, implies_true, Nat.blt_eq, owesN, owesX, owesR, Bool.not_eq_true', Bool.not_eq_false', Bool.and_eq_false_iff, sat_brT, sat_brF, sat_chkT, cl_iff, cl_false, AV.le_refl, AV.le_any, OLe_refl, OLe_none, Tree.sat_br, Tree.sat_chk, Tree.sat_leaf, Tree.sat_fail, Nat.zero_add, Nat.sub_zero, Int.toNat_natCast, LeH_cons, LeH_nil, LeL_cons, LeL_nil, and_true, true_and, Bool.and_eq_true, Bool.or_eq_true, Bool.or_eq_false_iff, decide_eq_true_eq, decide_eq_false_iff_not, Bool.cond_true_left, Bool.cond_false_right, List.cons_append, List.nil_append, List.map_cons, List.map_nil, wrapUp h0 h1]
    repeat' (first | apply And.intro | intro _hc)
    all_goals first | omega | exact AV.le_refl _ | exact AV.le_any _ | exact OLe.refl _ | exact OLe.none _ | exact LeH.refl _ | exact LeL.refl _ | exact AV.le.bs _ | exact AV.le.sb _ | (exfalso; omega) | contradiction
theorem ansSendROk {x : It} {mo lo : Int} {l junk : List It} (h : x.t.size ≤ 65536) (h2 : ¬ mo ≤ (l.length : Int)) (hs : l.length ≤ 999999999) : Answers Try.prog Γn 13 [.ptr 0 0, itV x] [netR 1 mo lo l.length, itB (l ++ junk)] (.v (.int .i64 0)) [some (netR 2 mo lo (l ++ [x]).length), some (itB (l ++ junk))] [itB (l ++ [x])] :=
  answers (fn := Try.f13) (c := bodyOf Try.f13) (ntmps := 38) (results := [.tmp 4]) [] Lno false Try.func13 (by kernel_rfl) (by kernel_rfl) (by kernel_rfl) (by kernel_rfl) (by simp) rfl (noLoops (by kernel_rfl)) <| Meets.of (runSendR x mo lo l.length (l ++ junk)) <| by
    simp only [not_true_eq_false, not_false_eq_true, false_implies, true_implies, implies_true, Nat.blt_eq, owesN, owesX, owesR, Bool.not_eq_true', Bool.not_eq_false', Bool.and_eq_false_iff, sat_brT, sat_brF, sat_chkT, cl_iff, cl_false, AV.le_refl, AV.le_any, OLe_refl, OLe_none, Tree.sat_br, Tree.sat_chk, Tree.sat_leaf, Tree.sat_fail, Nat.zero_add, Nat.sub_zero, Int.toNat_natCast, LeH_cons, LeH_nil, LeL_cons, LeL_nil, and_true, true_and, Bool.and_eq_true, Bool.or_eq_true, Bool.or_eq_false_iff, decide_eq_true_eq, decide_eq_false_iff_not, Bool.cond_true_left, Bool.cond_false_right, List.cons_append, List.nil_append, List.map_cons, List.map_nil]
    repeat' (first | apply And.intro | intro _hc)
    all_goals first | omega | exact AV.le_refl _ | exact AV.le_any _ | exact OLe.refl _ | exact OLe.none _ | exact LeH.refl _ | exact LeL.refl _ | exact AV.le.bs _ | exact AV.le.sb _ | exact room32 (by omega) | ((rw [List.length_append]; exact OLe.refl _)) | exact itCod.app2 l junk x default default rfl rfl | (exfalso; omega) | contradiction
theorem ansTakeRNo {i : Int} {mo lo : Int} {l junk : List It} (h : i < 0 ∨ (l.length : Int) ≤ i) : Answers Try.prog Γn 14 [.ptr 0 0, .v (.int .i64 i)] [netR 1 mo lo l.length, itB (l ++ junk)] (.tup [itV default, .v (.int .i64 240)]) [some (netR 1 mo lo l.length), some (itB (l ++ junk))] [] :=
  answers (fn := Try.f14) (c := bodyOf Try.f14) (ntmps := 46) (results := [.cell 4 45, .tmp 5]) [] Lno false Try.func14 (by kernel_rfl) (by kernel_rfl) (by kernel_rfl) (by kernel_rfl) (by simp) rfl (noLoops (by kernel_rfl)) <| Meets.of (runTakeR i mo lo l.length (l ++ junk)) <| by
    simp only [not_true_eq_false, not_false_eq_true, false_implies, true_implies, implies_true, Nat.blt_eq, owesN, owesX, owesR, Bool.not_eq_true', Bool.not_eq_false', Bool.and_eq_false_iff, sat_brT, sat_brF, sat_chkT, cl_iff, cl_false, AV.le_refl, AV.le_any, OLe_refl, OLe_none, Tree.sat_br, Tree.sat_chk, Tree.sat_leaf, Tree.sat_fail, Nat.zero_add, Nat.sub_zero, Int.toNat_natCast, LeH_cons, LeH_nil, LeL_cons, LeL_nil, and_true, true_and, Bool.and_eq_true, Bool.or_eq_true, Bool.or_eq_false_iff, decide_eq_true_eq, decide_eq_false_iff_not, Bool.cond_true_left, Bool.cond_false_right, List.cons_append, List.nil_append, List.map_cons, List.map_nil]
    repeat' (first | apply And.intro | intro _hc)
    all_goals first | omega | exact AV.le_refl _ | exact AV.le_any _ | exact OLe.refl _ | exact OLe.none _ | exact LeH.refl _ | exact LeL.refl _ | exact AV.le.bs _ | exact AV.le.sb _ | (exfalso; omega) | contradiction
theorem ansTakeR {i : Nat} {mo lo : Int} {l junk : List It} (h : i < l.length) (hs : l.length ≤ 999999999) : Answers Try.prog Γn 14 [.ptr 0 0, .v (.int .i64 (i : Int))] [netR 1 mo lo l.length, itB (l ++ junk)] (.tup [itV (l.getD i default), .v (.int .i64 0)]) [some (netR 2 mo lo (l.eraseIdx i).length), some (itB (l ++ junk))] [itB (l.eraseIdx i)] :=
  answers (fn := Try.f14) (c := bodyOf Try.f14) (ntmps := 46) (results := [.cell 4 45, .tmp 5]) [] Lno false Try.func14 (by kernel_rfl) (by kernel_rfl) (by kernel_rfl) (by kernel_rfl) (by simp) rfl (noLoops (by kernel_rfl)) <| Meets.of (runTakeR i mo lo l.length (l ++ junk)) <| by
    have hle : (l.eraseIdx i).length = l.length - 1 := List.length_eraseIdx_of_lt h
    simp only [not_true_eq_false, not_false_eq_true, false_implies, true_implies, implies_true, Nat.blt_eq, owesN, owesX, owesR, Bool.not_eq_true', Bool.not_eq_false', Bool.and_eq_false_iff, sat_brT, sat_brF, sat_chkT, cl_iff, cl_false, AV.le_refl, AV.le_any, OLe_refl, OLe_none, Tree.sat_br, Tree.sat_chk, Tree.sat_leaf, Tree.sat_fail, Nat.zero_add, Nat.sub_zero, Int.toNat_natCast, LeH_cons, LeH_nil, LeL_cons, LeL_nil, and_true, true_and, Bool.and_eq_true, Bool.or_eq_true, Bool.or_eq_false_iff, decide_eq_true_eq, decide_eq_false_iff_not, Bool.cond_true_left, Bool.cond_false_right, List.cons_append, List.nil_append, List.map_cons, List.map_nil, wrapUpN (show i ≤ 1000000000 by omega), getD_app h, hle]
    repeat' (first | apply And.intro | intro _hc)
    all_goals first | omega | exact AV.le_refl _ | exact AV.le_any _ | exact OLe.refl _ | exact OLe.none _ | exact LeH.refl _ | exact LeL.refl _ | exact AV.le.bs _ | exact AV.le.sb _ | exact room32 (by omega) | ((rw [show i + (l.length - (i + 1)) = l.length - 1 by omega]; exact OLe.refl _)) | exact itCod.del2 l junk default h (by omega) | (exfalso; omega) | contradiction
noncomputable def c13 : CT Try.prog Γn := CT.auto false 100 3 [] 13 Try.f13 (bodyOf Try.f13) false 38 [.tmp 4] Try.func13 (by kernel_rfl) (by kernel_rfl) (by kernel_rfl) (by kernel_rfl)
theorem runDblR (i : Int) (mo lo : Int) (n : Nat) (L : List It) : bodyE (P := Try.prog) (Γ := Γn) [c13] Lno false 25 [.tmp 4] (bodyOf Try.f16) [.ptr 0 0, .v (.int .i64 i)] [netR 1 mo lo n, itB L] =
  Tree.br (bif decide (i < (0 : Int)) then true else decide ((↑n : Int) ≤ i))
  (Tree.leaf
    (Ans.mk (AV.v (Value.int IntKind.i64 (240 : Int)))
      [some (Blk.row [AV.v (Value.int IntKind.i64 mo), AV.v (Value.int IntKind.i64 lo), AV.hs (1 : Nat) (0 : Nat) n]),
        some (Blk.arr (3 : Nat) (List.length L) (lsF It.c L))]))
  (Tree.chk (decide ((0 : Int) ≤ i) && decide (i < (↑n : Int)))
    (Tree.br (decide ((65536 : Int) < (↑(ByteArray.size (List.getD L ((0 : Nat) + Int.toNat i) default).t) : Int)))
      (Tree.leaf
        (Ans.mk (AV.v (Value.int IntKind.i64 (2 : Int)))
          [some
              (Blk.row [AV.v (Value.int IntKind.i64 mo), AV.v (Value.int IntKind.i64 lo), AV.hs (1 : Nat) (0 : Nat) n]),
            some (Blk.arr (3 : Nat) (List.length L) (lsF It.c L))]))
      (Tree.br (decide (mo ≤ (↑n : Int)))
        (Tree.leaf
          (Ans.mk (AV.v (Value.int IntKind.i64 (101 : Int)))
            [some
                (Blk.row
                  [AV.v (Value.int IntKind.i64 mo),
                    AV.v (Value.int IntKind.i64 (IntKind.wrap IntKind.i64 (lo + (1 : Int)))),
                    AV.hs (1 : Nat) (0 : Nat) n]),
              some (Blk.arr (3 : Nat) (List.length L) (lsF It.c L))]))
        (Tree.chk (roomOk (32 : Nat) ((0 : Nat) + n))
          (Tree.chk (roomOk (32 : Nat) ((0 : Nat) + n + (1 : Nat)))
            (Tree.leaf
              (Ans.mk (AV.v (Value.int IntKind.i64 (0 : Int)))
                [some
                    (Blk.row
                      [AV.v (Value.int IntKind.i64 mo), AV.v (Value.int IntKind.i64 lo),
                        AV.hs (2 : Nat) (0 : Nat) ((0 : Nat) + n + (1 : Nat))]),
                  some (Blk.arr (3 : Nat) (List.length L) (lsF It.c L)),
                  some
                    (Blk.arr (3 : Nat) ((0 : Nat) + n + (1 : Nat)) fun j =>
                      mixL (decide (j < (0 : Nat) + n))
                        (mixL (decide ((0 : Nat) + j < (0 : Nat)))
                          (chain
                            [AV.v (Value.int IntKind.i64 (0 : Int)), AV.v (Value.int IntKind.i64 (0 : Int)),
                              AV.v (Value.string (ByteArray.mk #[]))]
                            (0 : Nat) [] ((0 : Nat) + ((0 : Nat) + j)))
                          (lsF It.c L ((0 : Nat) + ((0 : Nat) + j))))
                        (chain
                          [AV.v (Value.int IntKind.i64 (0 : Int)), AV.v (Value.int IntKind.i64 (0 : Int)),
                            AV.v (Value.string (ByteArray.mk #[]))]
                          (0 : Nat)
                          [[AV.v (Value.int IntKind.i64 (List.getD L ((0 : Nat) + Int.toNat i) default).a),
                              AV.v (Value.int IntKind.i64 (List.getD L ((0 : Nat) + Int.toNat i) default).b),
                              AV.v (Value.string (List.getD L ((0 : Nat) + Int.toNat i) default).t)]]
                          ((0 : Nat) + (j - ((0 : Nat) + n)))))]))))))) := by kernel_rfl
theorem ansDblRNo {i : Int} {mo lo : Int} {l junk : List It} (h : i < 0 ∨ (l.length : Int) ≤ i) : Answers Try.prog Γn 16 [.ptr 0 0, .v (.int .i64 i)] [netR 1 mo lo l.length, itB (l ++ junk)] (.v (.int .i64 240)) [some (netR 1 mo lo l.length), some (itB (l ++ junk))] [] :=
  answers (fn := Try.f16) (c := bodyOf Try.f16) (ntmps := 25) (results := [.tmp 4]) [c13] Lno false Try.func16 (by kernel_rfl) (by kernel_rfl) (by kernel_rfl) (by kernel_rfl) (by simp) rfl (noLoops (by kernel_rfl)) <| Meets.of (runDblR i mo lo l.length (l ++ junk)) <| by
    simp only [not_true_eq_false, not_false_eq_true, false_implies, true_implies, implies_true, Nat.blt_eq, owesN, owesX, owesR, Bool.not_eq_true', Bool.not_eq_false', Bool.and_eq_false_iff, sat_brT, sat_brF, sat_chkT, cl_iff, cl_false, AV.le_refl, AV.le_any, OLe_refl, OLe_none, Tree.sat_br, Tree.sat_chk, Tree.sat_leaf, Tree.sat_fail, Nat.zero_add, Nat.sub_zero, Int.toNat_natCast, LeH_cons, LeH_nil, LeL_cons, LeL_nil, and_true, true_and, Bool.and_eq_true, Bool.or_eq_true, Bool.or_eq_false_iff, decide_eq_true_eq, decide_eq_false_iff_not, Bool.cond_true_left, Bool.cond_false_right, List.cons_append, List.nil_append, List.map_cons, List.map_nil]
    repeat' (first | apply And.intro | intro _hc)
    all_goals first | omega | exact AV.le_refl _ | exact AV.le_any _ | exact OLe.refl _ | exact OLe.none _ | exact LeH.refl _ | exact LeL.refl _ | exact AV.le.bs _ | exact AV.le.sb _ | (exfalso; omega) | contradiction
theorem ansDblRFull {i : Nat} {mo lo : Int} {l junk : List It} (h : i < l.length) (ht : (l.getD i default).t.size ≤ 65536) (h2 : mo ≤ (l.length : Int)) (h0 : 0 ≤ lo) (h1 : lo ≤ 1000000000) : Answers Try.prog Γn 16 [.ptr 0 0, .v (.int .i64 (i : Int))] [netR 1 mo lo l.length, itB (l ++ junk)] (.v (.int .i64 101)) [some (netR 1 mo (lo + 1) l.length), some (itB (l ++ junk))] [] :=
  answers (fn := Try.f16) (c := bodyOf Try.f16) (ntmps := 25) (results := [.tmp 4]) [c13] Lno false Try.func16 (by kernel_rfl) (by kernel_rfl) (by kernel_rfl) (by kernel_rfl) (by simp) rfl (noLoops (by kernel_rfl)) <| Meets.of (runDblR i mo lo l.length (l ++ junk)) <| by
    simp only [not_true_eq_false, not_false_eq_true, false_implies, true_implies, implies_true, Nat.blt_eq, owesN, owesX, owesR, Bool.not_eq_true', Bool.not_eq_false', Bool.and_eq_false_iff, sat_brT, sat_brF, sat_chkT, cl_iff, cl_false, AV.le_refl, AV.le_any, OLe_refl, OLe_none, Tree.sat_br, Tree.sat_chk, Tree.sat_leaf, Tree.sat_fail, Nat.zero_add, Nat.sub_zero, Int.toNat_natCast, LeH_cons, LeH_nil, LeL_cons, LeL_nil, and_true, true_and, Bool.and_eq_true, Bool.or_eq_true, Bool.or_eq_false_iff, decide_eq_true_eq, decide_eq_false_iff_not, Bool.cond_true_left, Bool.cond_false_right, List.cons_append, List.nil_append, List.map_cons, List.map_nil, wrapUp h0 h1, getD_app h]
    repeat' (first | apply And.intro | intro _hc)
    all_goals first | omega | exact AV.le_refl _ | exact AV.le_any _ | exact OLe.refl _ | exact OLe.none _ | exact LeH.refl _ | exact LeL.refl _ | exact AV.le.bs _ | exact AV.le.sb _ | (exfalso; omega) | contradiction
theorem ansDblROk {i : Nat} {mo lo : Int} {l junk : List It} (h : i < l.length) (ht : (l.getD i default).t.size ≤ 65536) (h2 : ¬ mo ≤ (l.length : Int)) (hs : l.length ≤ 999999999) : Answers Try.prog Γn 16 [.ptr 0 0, .v (.int .i64 (i : Int))] [netR 1 mo lo l.length, itB (l ++ junk)] (.v (.int .i64 0)) [some (netR 2 mo lo (l ++ [l.getD i default]).length), some (itB (l ++ junk))] [itB (l ++ [l.getD i default])] :=
  answers (fn := Try.f16) (c := bodyOf Try.f16) (ntmps := 25) (results := [.tmp 4]) [c13] Lno false Try.func16 (by kernel_rfl) (by kernel_rfl) (by kernel_rfl) (by kernel_rfl) (by simp) rfl (noLoops (by kernel_rfl)) <| Meets.of (runDblR i mo lo l.length (l ++ junk)) <| by
    simp only [not_true_eq_false, not_false_eq_true, false_implies, true_implies, implies_true, Nat.blt_eq, owesN, owesX, owesR, Bool.not_eq_true', Bool.not_eq_false', Bool.and_eq_false_iff, sat_brT, sat_brF, sat_chkT, cl_iff, cl_false, AV.le_refl, AV.le_any, OLe_refl, OLe_none, Tree.sat_br, Tree.sat_chk, Tree.sat_leaf, Tree.sat_fail, Nat.zero_add, Nat.sub_zero, Int.toNat_natCast, LeH_cons, LeH_nil, LeL_cons, LeL_nil, and_true, true_and, Bool.and_eq_true, Bool.or_eq_true, Bool.or_eq_false_iff, decide_eq_true_eq, decide_eq_false_iff_not, Bool.cond_true_left, Bool.cond_false_right, List.cons_append, List.nil_append, List.map_cons, List.map_nil, getD_app h]
    repeat' (first | apply And.intro | intro _hc)
    all_goals first | omega | exact AV.le_refl _ | exact AV.le_any _ | exact OLe.refl _ | exact OLe.none _ | exact LeH.refl _ | exact LeL.refl _ | exact AV.le.bs _ | exact AV.le.sb _ | exact room32 (by omega) | ((rw [List.length_append]; exact OLe.refl _)) | exact itCod.app2 l junk _ default default rfl rfl | (exfalso; omega) | contradiction
end Go.Eng.N

/- net: what a net shows is what the document's shows. -/
namespace Go.Eng.N
open Go Go.Eng Go.Proofs
set_option linter.unusedSimpArgs false
set_option linter.unusedVariables false
noncomputable abbrev lp18 : Code := loopOf (bodyOf Try.f18) 0
def H18 (mo lo mo' lo' : Int) (l j j' : List It) : List Blk := [netR 1 mo lo l.length, itB (l ++ j), netR 3 mo' lo' l.length, itB (l ++ j')]
theorem round18 (i : Nat) (mo lo mo' lo' : Int) (l j j' : List It) : roundE (P := Try.prog) (Γ := Γn) [] Lno false 4 0 lp18 [1, 5, 6, 4] [] 54 [.ptr 2 0, .hs 4 0 l.length, .v (.int .i64 (i : Int)), .any] ((H18 mo lo mo' lo' l j j').map some ++ [some (itB l)]) =
  Tree.br (decide ((↑i : Int) < (↑(List.length l) : Int)))
  (Tree.chk
    (decide ((0 : Int) ≤ (↑i : Int)) && decide ((↑i : Int) < (↑(List.length l) : Int)) &&
      (decide ((0 : Int) ≤ (↑i : Int)) && decide ((↑i : Int) < (↑(List.length l) : Int))))
    (Tree.br
      (!(decide
            ((List.getD l ((0 : Nat) + Int.toNat (↑i : Int)) default).a =
              (List.getD (l ++ j') ((0 : Nat) + Int.toNat (↑i : Int)) default).a) &&
          (decide
              ((List.getD l ((0 : Nat) + Int.toNat (↑i : Int)) default).b =
                (List.getD (l ++ j') ((0 : Nat) + Int.toNat (↑i : Int)) default).b) &&
            decide
              ((List.getD l ((0 : Nat) + Int.toNat (↑i : Int)) default).t =
                (List.getD (l ++ j') ((0 : Nat) + Int.toNat (↑i : Int)) default).t))))
      (Tree.leaf
        (Out.mk AEx.ret
          [AV.ptr (2 : Nat) (0 : Nat), AV.hs (4 : Nat) (0 : Nat) (List.length l),
            AV.v (Value.int IntKind.i64 (↑i : Int)), AV.v (Value.bool false)]
          [some
              (Blk.row
                [AV.v (Value.int IntKind.i64 mo), AV.v (Value.int IntKind.i64 lo),
                  AV.hs (1 : Nat) (0 : Nat) (List.length l)]),
            some (Blk.arr (3 : Nat) (List.length (l ++ j)) (lsF It.c (l ++ j))),
            some
              (Blk.row
                [AV.v (Value.int IntKind.i64 mo'), AV.v (Value.int IntKind.i64 lo'),
                  AV.hs (3 : Nat) (0 : Nat) (List.length l)]),
            some (Blk.arr (3 : Nat) (List.length (l ++ j')) (lsF It.c (l ++ j'))),
            some (Blk.arr (3 : Nat) (List.length l) (lsF It.c l))]))
      (Tree.leaf
        (Out.mk AEx.normal
          [AV.ptr (2 : Nat) (0 : Nat), AV.hs (4 : Nat) (0 : Nat) (List.length l),
            AV.v (Value.int IntKind.i64 (IntKind.wrap IntKind.i64 ((↑i : Int) + (1 : Int)))), AV.any]
          [some
              (Blk.row
                [AV.v (Value.int IntKind.i64 mo), AV.v (Value.int IntKind.i64 lo),
                  AV.hs (1 : Nat) (0 : Nat) (List.length l)]),
            some (Blk.arr (3 : Nat) (List.length (l ++ j)) (lsF It.c (l ++ j))),
            some
              (Blk.row
                [AV.v (Value.int IntKind.i64 mo'), AV.v (Value.int IntKind.i64 lo'),
                  AV.hs (3 : Nat) (0 : Nat) (List.length l)]),
            some (Blk.arr (3 : Nat) (List.length (l ++ j')) (lsF It.c (l ++ j'))),
            some (Blk.arr (3 : Nat) (List.length l) (lsF It.c l))]))))
  (Tree.leaf
    (Out.mk (AEx.exit (0 : Nat))
      [AV.ptr (2 : Nat) (0 : Nat), AV.hs (4 : Nat) (0 : Nat) (List.length l), AV.v (Value.int IntKind.i64 (↑i : Int)),
        AV.any]
      [some
          (Blk.row
            [AV.v (Value.int IntKind.i64 mo), AV.v (Value.int IntKind.i64 lo),
              AV.hs (1 : Nat) (0 : Nat) (List.length l)]),
        some (Blk.arr (3 : Nat) (List.length (l ++ j)) (lsF It.c (l ++ j))),
        some
          (Blk.row
            [AV.v (Value.int IntKind.i64 mo'), AV.v (Value.int IntKind.i64 lo'),
              AV.hs (3 : Nat) (0 : Nat) (List.length l)]),
        some (Blk.arr (3 : Nat) (List.length (l ++ j')) (lsF It.c (l ++ j'))),
        some (Blk.arr (3 : Nat) (List.length l) (lsF It.c l))])) := by kernel_rfl
def S18 (mo lo mo' lo' : Int) (l j j' : List It) (i : Nat) : List AV × Heap := ([.ptr 2 0, .hs 4 0 l.length, .v (.int .i64 (i : Int)), .any], (H18 mo lo mo' lo' l j j').map some ++ [some (itB l)])
def O18 (mo lo mo' lo' : Int) (l j j' : List It) : Out := ⟨.exit 0, (S18 mo lo mo' lo' l j j' l.length).1, (S18 mo lo mo' lo' l j j' l.length).2⟩
theorem loop18 {mo lo mo' lo' : Int} {l j j' : List It} (hs : l.length ≤ 100000000) : ∀ i, i ≤ l.length → LoopOK Try.prog Γn 4 54 lp18 (LSpec.at [1, 5, 6, 4] [] (S18 mo lo mo' lo' l j j' i) (O18 mo lo mo' lo' l j j')) := by
  refine loop_at (S := S18 mo lo mo' lo' l j j') (O := fun _ => O18 mo lo mo' lo' l j j') (k := 0) (fun i => l.length - i) fun i hp => .of (noLoops (by kernel_rfl)) (round18 i mo lo mo' lo' l j j') ?_
  by_cases hi : i < l.length
  · simp only [not_true_eq_false, not_false_eq_true, false_implies, true_implies, implies_true, Nat.blt_eq, owesN, owesX, owesR, Bool.not_eq_true', Bool.not_eq_false', Bool.and_eq_false_iff, sat_brT, sat_brF, sat_chkT, cl_iff, cl_false, AV.le_refl, AV.le_any, OLe_refl, OLe_none, Tree.sat_br, Tree.sat_chk, Tree.sat_leaf, Tree.sat_fail, Nat.zero_add, Nat.sub_zero, Int.toNat_natCast, LeH_cons, LeH_nil, LeL_cons, LeL_nil, and_true, true_and, Bool.and_eq_true, Bool.or_eq_true, Bool.or_eq_false_iff, decide_eq_true_eq, decide_eq_false_iff_not, Bool.cond_true_left, Bool.cond_false_right, List.cons_append, List.nil_append, List.map_cons, List.map_nil, getD_app hi, wrapUpN (show i ≤ 1000000000 by omega)]
    repeat' (first | apply And.intro | intro _hc)
    all_goals first | omega | exact AV.le_refl _ | exact AV.le_any _ | exact OLe.refl _ | exact OLe.none _ | exact LeH.refl _ | exact LeL.refl _ | exact AV.le.bs _ | exact AV.le.sb _ | exact ⟨i + 1, LeL.refl _, LeH.refl _, hi, by omega⟩ | (exfalso; omega) | contradiction
  · obtain rfl : i = l.length := by omega
    simp only [not_true_eq_false, not_false_eq_true, false_implies, true_implies, implies_true, Nat.blt_eq, owesN, owesX, owesR, Bool.not_eq_true', Bool.not_eq_false', Bool.and_eq_false_iff, sat_brT, sat_brF, sat_chkT, cl_iff, cl_false, AV.le_refl, AV.le_any, OLe_refl, OLe_none, Tree.sat_br, Tree.sat_chk, Tree.sat_leaf, Tree.sat_fail, Nat.zero_add, Nat.sub_zero, Int.toNat_natCast, LeH_cons, LeH_nil, LeL_cons, LeL_nil, and_true, true_and, Bool.and_eq_true, Bool.or_eq_true, Bool.or_eq_false_iff, decide_eq_true_eq, decide_eq_false_iff_not, Bool.cond_true_left, Bool.cond_false_right, List.cons_append, List.nil_append, List.map_cons, List.map_nil]
    repeat' (first | apply And.intro | intro _hc)
    all_goals first | omega | exact AV.le_refl _ | exact AV.le_any _ | exact OLe.refl _ | exact OLe.none _ | exact LeH.refl _ | exact LeL.refl _ | exact AV.le.bs _ | exact AV.le.sb _ | exact rfl | (exfalso; omega) | contradiction
theorem runShows (mo lo mo' lo' : Int) (l j j' : List It) (hs : l.length ≤ 1000000000) : bodyE (P := Try.prog) (Γ := Γn) [CT.at 12 (ansItems (mo := mo) (lo := lo) (l := l) (junk := j) hs), S.c10, S.c19] (fun _ => LSpec.at [1, 5, 6, 4] [] (S18 mo lo mo' lo' l j j' 0) (O18 mo lo mo' lo' l j j')) false 54 [.tmp 4] (bodyOf Try.f18) [.ptr 0 0, .ptr 2 0] (H18 mo lo mo' lo' l j j') =
  Tree.chk
  (cl
    (LeL [AV.ptr (0 : Nat) (0 : Nat)] [AV.ptr (0 : Nat) (0 : Nat)] ∧
      LeH
        [some
            (Blk.row
              [AV.v (Value.int IntKind.i64 mo), AV.v (Value.int IntKind.i64 lo),
                AV.hs (1 : Nat) (0 : Nat) (List.length l)]),
          some (Blk.arr (3 : Nat) (List.length (l ++ j)) (lsF It.c (l ++ j)))]
        [some
            (Blk.row
              [AV.v (Value.int IntKind.i64 mo), AV.v (Value.int IntKind.i64 lo),
                AV.hs (1 : Nat) (0 : Nat) (List.length l)]),
          some (Blk.arr (3 : Nat) (List.length (l ++ j)) (lsF It.c (l ++ j)))]))
  (Tree.br (!decide ((↑(List.length l) : Int) = (↑(List.length l) : Int)))
    (Tree.leaf
      (Ans.mk (AV.v (Value.bool false))
        [some
            (Blk.row
              [AV.v (Value.int IntKind.i64 mo), AV.v (Value.int IntKind.i64 lo),
                AV.hs (1 : Nat) (0 : Nat) (List.length l)]),
          some (Blk.arr (3 : Nat) (List.length (l ++ j)) (lsF It.c (l ++ j))),
          some
            (Blk.row
              [AV.v (Value.int IntKind.i64 mo'), AV.v (Value.int IntKind.i64 lo'),
                AV.hs (3 : Nat) (0 : Nat) (List.length l)]),
          some (Blk.arr (3 : Nat) (List.length (l ++ j')) (lsF It.c (l ++ j')))]))
    (Tree.br (!decide ((↑(List.length l) : Int) = (↑(List.length l) : Int)))
      (Tree.leaf
        (Ans.mk (AV.v (Value.bool false))
          [some
              (Blk.row
                [AV.v (Value.int IntKind.i64 mo), AV.v (Value.int IntKind.i64 lo),
                  AV.hs (1 : Nat) (0 : Nat) (List.length l)]),
            some (Blk.arr (3 : Nat) (List.length (l ++ j)) (lsF It.c (l ++ j))),
            some
              (Blk.row
                [AV.v (Value.int IntKind.i64 mo'), AV.v (Value.int IntKind.i64 lo'),
                  AV.hs (3 : Nat) (0 : Nat) (List.length l)]),
            some (Blk.arr (3 : Nat) (List.length (l ++ j')) (lsF It.c (l ++ j')))]))
      (Tree.br (!decide (lo = lo'))
        (Tree.leaf
          (Ans.mk (AV.v (Value.bool false))
            [some
                (Blk.row
                  [AV.v (Value.int IntKind.i64 mo), AV.v (Value.int IntKind.i64 lo),
                    AV.hs (1 : Nat) (0 : Nat) (List.length l)]),
              some (Blk.arr (3 : Nat) (List.length (l ++ j)) (lsF It.c (l ++ j))),
              some
                (Blk.row
                  [AV.v (Value.int IntKind.i64 mo'), AV.v (Value.int IntKind.i64 lo'),
                    AV.hs (3 : Nat) (0 : Nat) (List.length l)]),
              some (Blk.arr (3 : Nat) (List.length (l ++ j')) (lsF It.c (l ++ j')))]))
        (Tree.chk
          (cl
            (LeL
                [AV.ptr (2 : Nat) (0 : Nat), AV.hs (4 : Nat) (0 : Nat) (List.length l),
                  AV.v (Value.int IntKind.i64 (0 : Int)), AV.v (Value.bool false)]
                [AV.ptr (2 : Nat) (0 : Nat), AV.hs (4 : Nat) (0 : Nat) (List.length l),
                  AV.v (Value.int IntKind.i64 (↑(0 : Nat) : Int)), AV.any] ∧
              LeH
                [some
                    (Blk.row
                      [AV.v (Value.int IntKind.i64 mo), AV.v (Value.int IntKind.i64 lo),
                        AV.hs (1 : Nat) (0 : Nat) (List.length l)]),
                  some (Blk.arr (3 : Nat) (List.length (l ++ j)) (lsF It.c (l ++ j))),
                  some
                    (Blk.row
                      [AV.v (Value.int IntKind.i64 mo'), AV.v (Value.int IntKind.i64 lo'),
                        AV.hs (3 : Nat) (0 : Nat) (List.length l)]),
                  some (Blk.arr (3 : Nat) (List.length (l ++ j')) (lsF It.c (l ++ j'))),
                  some (Blk.arr (3 : Nat) (List.length l) (lsF It.c l))]
                [some
                    (Blk.row
                      [AV.v (Value.int IntKind.i64 mo), AV.v (Value.int IntKind.i64 lo),
                        AV.hs (1 : Nat) (0 : Nat) (List.length l)]),
                  some (Blk.arr (3 : Nat) (List.length (l ++ j)) (lsF It.c (l ++ j))),
                  some
                    (Blk.row
                      [AV.v (Value.int IntKind.i64 mo'), AV.v (Value.int IntKind.i64 lo'),
                        AV.hs (3 : Nat) (0 : Nat) (List.length l)]),
                  some (Blk.arr (3 : Nat) (List.length (l ++ j')) (lsF It.c (l ++ j'))),
                  some (Blk.arr (3 : Nat) (List.length l) (lsF It.c l))]))
          (Tree.leaf
            (Ans.mk (AV.v (Value.bool true))
              [some
                  (Blk.row
                    [AV.v (Value.int IntKind.i64 mo), AV.v (Value.int IntKind.i64 lo),
                      AV.hs (1 : Nat) (0 : Nat) (List.length l)]),
                some (Blk.arr (3 : Nat) (List.length (l ++ j)) (lsF It.c (l ++ j))),
                some
                  (Blk.row
                    [AV.v (Value.int IntKind.i64 mo'), AV.v (Value.int IntKind.i64 lo'),
                      AV.hs (3 : Nat) (0 : Nat) (List.length l)]),
                some (Blk.arr (3 : Nat) (List.length (l ++ j')) (lsF It.c (l ++ j')))])))))) := by kernel_rfl
theorem ansShows {mo mo' lo : Int} {l j j' : List It} (hs : l.length ≤ 100000000) : Answers Try.prog Γn 18 [.ptr 0 0, .ptr 2 0] (H18 mo lo mo' lo l j j') (.sb true) ((H18 mo lo mo' lo l j j').map some) [] :=
  answers (fn := Try.f18) (c := bodyOf Try.f18) (ntmps := 54) (results := [.tmp 4]) [CT.at 12 (ansItems (mo := mo) (lo := lo) (l := l) (junk := j) (Nat.le_trans hs (by omega))), S.c10, S.c19] (fun _ => LSpec.at [1, 5, 6, 4] [] (S18 mo lo mo' lo l j j' 0) (O18 mo lo mo' lo l j j')) false Try.func18 (by kernel_rfl) (by kernel_rfl) (by kernel_rfl) (by kernel_rfl) (by simp) rfl (oneLoop rfl (loop18 hs 0 (Nat.zero_le _))) <| Meets.of (runShows mo lo mo' lo l j j' (Nat.le_trans hs (by omega))) <| by
    simp only [not_true_eq_false, not_false_eq_true, false_implies, true_implies, implies_true, Nat.blt_eq, owesN, owesX, owesR, Bool.not_eq_true', Bool.not_eq_false', Bool.and_eq_false_iff, sat_brT, sat_brF, sat_chkT, cl_iff, cl_false, AV.le_refl, AV.le_any, OLe_refl, OLe_none, Tree.sat_br, Tree.sat_chk, Tree.sat_leaf, Tree.sat_fail, Nat.zero_add, Nat.sub_zero, Int.toNat_natCast, LeH_cons, LeH_nil, LeL_cons, LeL_nil, and_true, true_and, Bool.and_eq_true, Bool.or_eq_true, Bool.or_eq_false_iff, decide_eq_true_eq, decide_eq_false_iff_not, Bool.cond_true_left, Bool.cond_false_right, List.cons_append, List.nil_append, List.map_cons, List.map_nil]
    repeat' (first | apply And.intro | intro _hc)
    all_goals first | omega | exact AV.le_refl _ | exact AV.le_any _ | exact OLe.refl _ | exact OLe.none _ | exact LeH.refl _ | exact LeL.refl _ | exact AV.le.bs _ | exact AV.le.sb _ | (exfalso; omega) | contradiction
end Go.Eng.N

/- net: nothing comes of itself: the inner loops. -/
namespace Go.Eng.N
open Go Go.Eng Go.Proofs
set_option linter.unusedSimpArgs false
set_option linter.unusedVariables false
/-- a call -/
structure Act where
  k : Int
  i : Int
  x : It
instance : Inhabited Act := ⟨⟨0, 0, default⟩⟩
def Act.c (x : Act) : List AV := [.v (.int .i64 x.k), .v (.int .i64 x.i), .v (.int .i64 x.x.a), .v (.int .i64 x.x.b), .v (.string x.x.t)]
noncomputable abbrev lp5 (j : Nat) : Code := loopOf (bodyOf Try.f5) j
noncomputable def cClone : CT Try.prog Γn := CT.clone itCod 22 ansClone
noncomputable def cItems : CT Try.prog Γn := CT.auto false 100 3 [cClone] 12 Try.f12 (bodyOf Try.f12) false 10 [.tmp 2] Try.func12 (by kernel_rfl) (by kernel_rfl) (by kernel_rfl) (by kernel_rfl)
/-- what is the same in all loops: the bound, the calls, the net, what was sent, which call -/
structure X5 where
  mo : Int
  acts : List Act
  lo : Int
  l : List It
  j : List It
  sent : List It
  i : Nat
def X5.v (x : X5) : List AV := [.v (.int .i64 x.mo), .sl 5 x.acts.length (lsF Act.c x.acts), .ptr 0 0, .hs 2 0 x.sent.length, .v (.int .i64 (x.i : Int))]
def X5.H (x : X5) : List Blk := [netR 1 x.mo x.lo x.l.length, itB (x.l ++ x.j), itB x.sent]
/-- the same item? -/
def sameI (z y : It) : Bool := decide (z.a = y.a) && (decide (z.b = y.b) && decide (z.t = y.t))
/-- is an item among the first ones? -/
def among (sent : List It) (q : Nat) (y : It) : Bool := (sent.take q).any fun z => sameI z y
abbrev now (x : X5) : Blk := .arr 3 x.l.length (lsF It.c (x.l ++ x.j))
def S53 (x : X5) (k q : Nat) (b : Bool) : List AV × Heap := (x.v ++ [.hs 3 0 x.l.length, .v (.int .i64 (k : Int)), .sb b, .v (.int .i64 (q : Int)), .any], (x.H ++ [now x]).map some)
def S52 (x : X5) (k : Nat) : List AV × Heap := (x.v ++ [.hs 3 0 x.l.length, .v (.int .i64 (k : Int)), .any], (x.H ++ [now x]).map some)
def O53 (x : X5) (k : Nat) : Out := ⟨.exit 5, x.v ++ [.hs 3 0 x.l.length, .v (.int .i64 (k : Int)), .sb true, .any, .any], (x.H ++ [now x]).map some⟩
def O52 (x : X5) : Out := ⟨.exit 3, x.v ++ [.any, .any, .any], x.H.map some ++ [none]⟩
theorem r53 (x : X5) (k q : Nat) (b : Bool) : roundE (P := Try.prog) (Γ := Γn) [] Lno false 0 0 (lp5 2) [0, 1, 5, 7, 8, 12, 13, 14, 15, 4] [] 146 (S53 x k q b).1 (S53 x k q b).2 =
  Tree.br (decide ((↑q : Int) < (↑(List.length x.sent) : Int)))
  (Tree.chk
    (bif b then true
    else
      decide ((0 : Int) ≤ (↑q : Int)) && decide ((↑q : Int) < (↑(List.length x.sent) : Int)) &&
        (decide ((0 : Int) ≤ (↑k : Int)) && decide ((↑k : Int) < (↑(List.length x.l) : Int))))
    (Tree.leaf
      (Out.mk AEx.normal
        [AV.v (Value.int IntKind.i64 x.mo), AV.sl (5 : Nat) (List.length x.acts) (lsF Act.c x.acts),
          AV.ptr (0 : Nat) (0 : Nat), AV.hs (2 : Nat) (0 : Nat) (List.length x.sent),
          AV.v (Value.int IntKind.i64 (↑x.i : Int)), AV.hs (3 : Nat) (0 : Nat) (List.length x.l),
          AV.v (Value.int IntKind.i64 (↑k : Int)),
          AV.sb
            (bif b then true
            else
              decide
                  ((List.getD x.sent ((0 : Nat) + q) default).a = (List.getD (x.l ++ x.j) ((0 : Nat) + k) default).a) &&
                (decide
                    ((List.getD x.sent ((0 : Nat) + q) default).b =
                      (List.getD (x.l ++ x.j) ((0 : Nat) + k) default).b) &&
                  decide
                    ((List.getD x.sent ((0 : Nat) + q) default).t =
                      (List.getD (x.l ++ x.j) ((0 : Nat) + k) default).t))),
          AV.v (Value.int IntKind.i64 (IntKind.wrap IntKind.i64 ((↑q : Int) + (1 : Int)))), AV.any]
        [some
            (Blk.row
              [AV.v (Value.int IntKind.i64 x.mo), AV.v (Value.int IntKind.i64 x.lo),
                AV.hs (1 : Nat) (0 : Nat) (List.length x.l)]),
          some (Blk.arr (3 : Nat) (List.length (x.l ++ x.j)) (lsF It.c (x.l ++ x.j))),
          some (Blk.arr (3 : Nat) (List.length x.sent) (lsF It.c x.sent)),
          some (Blk.arr (3 : Nat) (List.length x.l) (lsF It.c (x.l ++ x.j)))])))
  (Tree.leaf
    (Out.mk (AEx.exit (5 : Nat))
      [AV.v (Value.int IntKind.i64 x.mo), AV.sl (5 : Nat) (List.length x.acts) (lsF Act.c x.acts),
        AV.ptr (0 : Nat) (0 : Nat), AV.hs (2 : Nat) (0 : Nat) (List.length x.sent),
        AV.v (Value.int IntKind.i64 (↑x.i : Int)), AV.hs (3 : Nat) (0 : Nat) (List.length x.l),
        AV.v (Value.int IntKind.i64 (↑k : Int)), AV.sb b, AV.v (Value.int IntKind.i64 (↑q : Int)), AV.any]
      [some
          (Blk.row
            [AV.v (Value.int IntKind.i64 x.mo), AV.v (Value.int IntKind.i64 x.lo),
              AV.hs (1 : Nat) (0 : Nat) (List.length x.l)]),
        some (Blk.arr (3 : Nat) (List.length (x.l ++ x.j)) (lsF It.c (x.l ++ x.j))),
        some (Blk.arr (3 : Nat) (List.length x.sent) (lsF It.c x.sent)),
        some (Blk.arr (3 : Nat) (List.length x.l) (lsF It.c (x.l ++ x.j)))])) := by kernel_rfl
theorem r52 (x : X5) (k : Nat) : roundE (P := Try.prog) (Γ := Γn) [] (fun _ => LSpec.at [0, 1, 5, 7, 8, 12, 13, 14, 15, 4] [] (S53 x k 0 false) (O53 x k)) false 0 0 (lp5 1) [0, 1, 5, 7, 8, 12, 13, 4] [] 146 (S52 x k).1 (S52 x k).2 =
  Tree.br (decide ((↑k : Int) < (↑(List.length x.l) : Int)))
  (Tree.chk
    (cl
      (LeL
          [AV.v (Value.int IntKind.i64 x.mo), AV.sl (5 : Nat) (List.length x.acts) (lsF Act.c x.acts),
            AV.ptr (0 : Nat) (0 : Nat), AV.hs (2 : Nat) (0 : Nat) (List.length x.sent),
            AV.v (Value.int IntKind.i64 (↑x.i : Int)), AV.hs (3 : Nat) (0 : Nat) (List.length x.l),
            AV.v (Value.int IntKind.i64 (↑k : Int)), AV.v (Value.bool false), AV.v (Value.int IntKind.i64 (0 : Int)),
            AV.any]
          [AV.v (Value.int IntKind.i64 x.mo), AV.sl (5 : Nat) (List.length x.acts) (lsF Act.c x.acts),
            AV.ptr (0 : Nat) (0 : Nat), AV.hs (2 : Nat) (0 : Nat) (List.length x.sent),
            AV.v (Value.int IntKind.i64 (↑x.i : Int)), AV.hs (3 : Nat) (0 : Nat) (List.length x.l),
            AV.v (Value.int IntKind.i64 (↑k : Int)), AV.sb false, AV.v (Value.int IntKind.i64 (↑(0 : Nat) : Int)),
            AV.any] ∧
        LeH
          [some
              (Blk.row
                [AV.v (Value.int IntKind.i64 x.mo), AV.v (Value.int IntKind.i64 x.lo),
                  AV.hs (1 : Nat) (0 : Nat) (List.length x.l)]),
            some (Blk.arr (3 : Nat) (List.length (x.l ++ x.j)) (lsF It.c (x.l ++ x.j))),
            some (Blk.arr (3 : Nat) (List.length x.sent) (lsF It.c x.sent)),
            some (Blk.arr (3 : Nat) (List.length x.l) (lsF It.c (x.l ++ x.j)))]
          [some
              (Blk.row
                [AV.v (Value.int IntKind.i64 x.mo), AV.v (Value.int IntKind.i64 x.lo),
                  AV.hs (1 : Nat) (0 : Nat) (List.length x.l)]),
            some (Blk.arr (3 : Nat) (List.length (x.l ++ x.j)) (lsF It.c (x.l ++ x.j))),
            some (Blk.arr (3 : Nat) (List.length x.sent) (lsF It.c x.sent)),
            some (Blk.arr (3 : Nat) (List.length x.l) (lsF It.c (x.l ++ x.j)))]))
    (Tree.br false
      (Tree.leaf
        (Out.mk AEx.ret
          [AV.v (Value.int IntKind.i64 x.mo), AV.sl (5 : Nat) (List.length x.acts) (lsF Act.c x.acts),
            AV.ptr (0 : Nat) (0 : Nat), AV.hs (2 : Nat) (0 : Nat) (List.length x.sent),
            AV.v (Value.int IntKind.i64 (↑x.i : Int)), AV.hs (3 : Nat) (0 : Nat) (List.length x.l),
            AV.v (Value.int IntKind.i64 (↑k : Int)), AV.v (Value.bool false)]
          [some
              (Blk.row
                [AV.v (Value.int IntKind.i64 x.mo), AV.v (Value.int IntKind.i64 x.lo),
                  AV.hs (1 : Nat) (0 : Nat) (List.length x.l)]),
            some (Blk.arr (3 : Nat) (List.length (x.l ++ x.j)) (lsF It.c (x.l ++ x.j))),
            some (Blk.arr (3 : Nat) (List.length x.sent) (lsF It.c x.sent)),
            some (Blk.arr (3 : Nat) (List.length x.l) (lsF It.c (x.l ++ x.j)))]))
      (Tree.leaf
        (Out.mk AEx.normal
          [AV.v (Value.int IntKind.i64 x.mo), AV.sl (5 : Nat) (List.length x.acts) (lsF Act.c x.acts),
            AV.ptr (0 : Nat) (0 : Nat), AV.hs (2 : Nat) (0 : Nat) (List.length x.sent),
            AV.v (Value.int IntKind.i64 (↑x.i : Int)), AV.hs (3 : Nat) (0 : Nat) (List.length x.l),
            AV.v (Value.int IntKind.i64 (IntKind.wrap IntKind.i64 ((↑k : Int) + (1 : Int)))), AV.any]
          [some
              (Blk.row
                [AV.v (Value.int IntKind.i64 x.mo), AV.v (Value.int IntKind.i64 x.lo),
                  AV.hs (1 : Nat) (0 : Nat) (List.length x.l)]),
            some (Blk.arr (3 : Nat) (List.length (x.l ++ x.j)) (lsF It.c (x.l ++ x.j))),
            some (Blk.arr (3 : Nat) (List.length x.sent) (lsF It.c x.sent)),
            some (Blk.arr (3 : Nat) (List.length x.l) (lsF It.c (x.l ++ x.j)))]))))
  (Tree.leaf
    (Out.mk (AEx.exit (3 : Nat))
      [AV.v (Value.int IntKind.i64 x.mo), AV.sl (5 : Nat) (List.length x.acts) (lsF Act.c x.acts),
        AV.ptr (0 : Nat) (0 : Nat), AV.hs (2 : Nat) (0 : Nat) (List.length x.sent),
        AV.v (Value.int IntKind.i64 (↑x.i : Int)), AV.hs (3 : Nat) (0 : Nat) (List.length x.l),
        AV.v (Value.int IntKind.i64 (↑k : Int)), AV.any]
      [some
          (Blk.row
            [AV.v (Value.int IntKind.i64 x.mo), AV.v (Value.int IntKind.i64 x.lo),
              AV.hs (1 : Nat) (0 : Nat) (List.length x.l)]),
        some (Blk.arr (3 : Nat) (List.length (x.l ++ x.j)) (lsF It.c (x.l ++ x.j))),
        some (Blk.arr (3 : Nat) (List.length x.sent) (lsF It.c x.sent)),
        some (Blk.arr (3 : Nat) (List.length x.l) (lsF It.c (x.l ++ x.j)))])) := by kernel_rfl
theorem r52e (x : X5) (k : Nat) : roundE (P := Try.prog) (Γ := Γn) [] (fun _ => ⟨[], [], fun _ _ => .fail⟩) false 0 0 (lp5 1) [0, 1, 5, 7, 8, 12, 13, 4] [] 146 (S52 x k).1 (S52 x k).2 =
  Tree.br (decide ((↑k : Int) < (↑(List.length x.l) : Int))) Tree.fail
  (Tree.leaf
    (Out.mk (AEx.exit (3 : Nat))
      [AV.v (Value.int IntKind.i64 x.mo), AV.sl (5 : Nat) (List.length x.acts) (lsF Act.c x.acts),
        AV.ptr (0 : Nat) (0 : Nat), AV.hs (2 : Nat) (0 : Nat) (List.length x.sent),
        AV.v (Value.int IntKind.i64 (↑x.i : Int)), AV.hs (3 : Nat) (0 : Nat) (List.length x.l),
        AV.v (Value.int IntKind.i64 (↑k : Int)), AV.any]
      [some
          (Blk.row
            [AV.v (Value.int IntKind.i64 x.mo), AV.v (Value.int IntKind.i64 x.lo),
              AV.hs (1 : Nat) (0 : Nat) (List.length x.l)]),
        some (Blk.arr (3 : Nat) (List.length (x.l ++ x.j)) (lsF It.c (x.l ++ x.j))),
        some (Blk.arr (3 : Nat) (List.length x.sent) (lsF It.c x.sent)),
        some (Blk.arr (3 : Nat) (List.length x.l) (lsF It.c (x.l ++ x.j)))])) := by kernel_rfl
theorem among_zero {sent : List It} {y : It} : among sent 0 y = false := rfl
theorem among_succ {sent : List It} {q : Nat} {y : It} (h : q < sent.length) : among sent (q + 1) y = (bif among sent q y then true else sameI (sent.getD q default) y) := by
  unfold among
  rw [List.take_add_one, List.any_append, List.getElem?_eq_getElem h, getD_get h]
  simp
theorem among_all {sent : List It} {y : It} (h : y ∈ sent) : among sent sent.length y = true := by
  unfold among
  rw [List.take_length, List.any_eq_true]
  exact ⟨y, h, by simp [sameI]⟩
abbrev nowAt (x : X5) (k : Nat) : It := (x.l ++ x.j).getD k default
theorem loop53 {x : X5} {k : Nat} (hk : k < x.l.length) (hl : x.l.length ≤ 100000) (hs : x.sent.length ≤ 100000) (hm : nowAt x k ∈ x.sent) : ∀ q, q ≤ x.sent.length → LoopOK Try.prog Γn 0 146 (lp5 2) (LSpec.at [0, 1, 5, 7, 8, 12, 13, 14, 15, 4] [] (S53 x k q (among x.sent q (nowAt x k))) (O53 x k)) := by
  refine loop_at (S := fun q => S53 x k q (among x.sent q (nowAt x k))) (O := fun _ => O53 x k) (k := 0) (fun q => x.sent.length - q) fun q hp => ?_
  refine .of (noLoops (by kernel_rfl)) (r53 x k q (among x.sent q (nowAt x k))) ?_
  rcases Nat.lt_or_ge q x.sent.length with hi | hi
  · have key : LeL (x.v ++ [.hs 3 0 x.l.length, .v (.int .i64 (k : Int)), .sb (bif among x.sent q (nowAt x k) then true else sameI (x.sent.getD q default) (nowAt x k)), .v (.int .i64 ((q + 1 : Nat) : Int)), .any]) (S53 x k (q + 1) (among x.sent (q + 1) (nowAt x k))).1 := by
      rw [among_succ hi]; exact LeL.refl _
    simp only [not_true_eq_false, not_false_eq_true, false_implies, true_implies, implies_true, Nat.blt_eq, owesN, owesX, owesR, Bool.not_eq_true', Bool.not_eq_false', Bool.and_eq_false_iff, sat_brT, sat_brF, sat_chkT, cl_iff, cl_false, AV.le_refl, AV.le_any, OLe_refl, OLe_none, Tree.sat_br, Tree.sat_chk, Tree.sat_leaf, Tree.sat_fail, Nat.zero_add, Nat.sub_zero, Int.toNat_natCast, LeH_cons, LeH_nil, LeL_cons, LeL_nil, and_true, true_and, Bool.and_eq_true, Bool.or_eq_true, Bool.or_eq_false_iff, decide_eq_true_eq, decide_eq_false_iff_not, Bool.cond_true_left, Bool.cond_false_right, List.cons_append, List.nil_append, List.map_cons, List.map_nil, wrapUpN (show q ≤ 1000000000 by omega)]
    refine ⟨fun _ => ⟨.inr (by omega), ⟨q + 1, key, LeH.refl _, hi, by omega⟩⟩, fun h => by omega⟩
  · obtain rfl : q = x.sent.length := by omega
    have hA := among_all hm
    simp only [not_true_eq_false, not_false_eq_true, false_implies, true_implies, implies_true, Nat.blt_eq, owesN, owesX, owesR, Bool.not_eq_true', Bool.not_eq_false', Bool.and_eq_false_iff, sat_brT, sat_brF, sat_chkT, cl_iff, cl_false, AV.le_refl, AV.le_any, OLe_refl, OLe_none, Tree.sat_br, Tree.sat_chk, Tree.sat_leaf, Tree.sat_fail, Nat.zero_add, Nat.sub_zero, Int.toNat_natCast, LeH_cons, LeH_nil, LeL_cons, LeL_nil, and_true, true_and, Bool.and_eq_true, Bool.or_eq_true, Bool.or_eq_false_iff, decide_eq_true_eq, decide_eq_false_iff_not, Bool.cond_true_left, Bool.cond_false_right, List.cons_append, List.nil_append, List.map_cons, List.map_nil]
    repeat' (first | apply And.intro | intro _hc)
    all_goals first | omega | exact AV.le_refl _ | exact AV.le_any _ | exact OLe.refl _ | exact OLe.none _ | exact LeH.refl _ | exact LeL.refl _ | exact AV.le.bs _ | exact AV.le.sb _ | exact rfl | exact (le_sbsb.2 hA) | (exfalso; omega) | contradiction
theorem loop52 {x : X5} (hl : x.l.length ≤ 100000) (hs : x.sent.length ≤ 100000) (hm : ∀ y, y ∈ x.l → y ∈ x.sent) : ∀ k, k ≤ x.l.length → LoopOK Try.prog Γn 0 146 (lp5 1) (LSpec.at [0, 1, 5, 7, 8, 12, 13, 4] [] (S52 x k) (O52 x)) := by
  refine loop_at (S := S52 x) (O := fun _ => O52 x) (k := 0) (fun k => x.l.length - k) fun k hp => ?_
  rcases Nat.lt_or_ge k x.l.length with hi | hi
  · have hy : nowAt x k ∈ x.sent := hm _ (by unfold nowAt; rw [getD_app hi, getD_get hi]; exact List.getElem_mem hi)
    refine .of (oneLoop (b := lp5 2) (by kernel_rfl) (loop53 hi hl hs hy 0 (Nat.zero_le _))) (r52 x k) ?_
    simp only [not_true_eq_false, not_false_eq_true, false_implies, true_implies, implies_true, Nat.blt_eq, owesN, owesX, owesR, Bool.not_eq_true', Bool.not_eq_false', Bool.and_eq_false_iff, sat_brT, sat_brF, sat_chkT, cl_iff, cl_false, AV.le_refl, AV.le_any, OLe_refl, OLe_none, Tree.sat_br, Tree.sat_chk, Tree.sat_leaf, Tree.sat_fail, Nat.zero_add, Nat.sub_zero, Int.toNat_natCast, LeH_cons, LeH_nil, LeL_cons, LeL_nil, and_true, true_and, Bool.and_eq_true, Bool.or_eq_true, Bool.or_eq_false_iff, decide_eq_true_eq, decide_eq_false_iff_not, Bool.cond_true_left, Bool.cond_false_right, List.cons_append, List.nil_append, List.map_cons, List.map_nil, wrapUpN (show k ≤ 1000000000 by omega)]
    repeat' (first | apply And.intro | intro _hc)
    all_goals first | omega | exact AV.le_refl _ | exact AV.le_any _ | exact OLe.refl _ | exact OLe.none _ | exact LeH.refl _ | exact LeL.refl _ | exact AV.le.bs _ | exact AV.le.sb _ | exact ⟨k + 1, LeL.refl _, LeH.refl _, hi, by omega⟩ | (exfalso; omega) | contradiction
  · refine .of (L := fun _ => ⟨[], [], fun _ _ => .fail⟩) (T := []) (ip := false) (failOK fun _ _ _ => rfl) (r52e x k) ?_
    simp only [not_true_eq_false, not_false_eq_true, false_implies, true_implies, implies_true, Nat.blt_eq, owesN, owesX, owesR, Bool.not_eq_true', Bool.not_eq_false', Bool.and_eq_false_iff, sat_brT, sat_brF, sat_chkT, cl_iff, cl_false, AV.le_refl, AV.le_any, OLe_refl, OLe_none, Tree.sat_br, Tree.sat_chk, Tree.sat_leaf, Tree.sat_fail, Nat.zero_add, Nat.sub_zero, Int.toNat_natCast, LeH_cons, LeH_nil, LeL_cons, LeL_nil, and_true, true_and, Bool.and_eq_true, Bool.or_eq_true, Bool.or_eq_false_iff, decide_eq_true_eq, decide_eq_false_iff_not, Bool.cond_true_left, Bool.cond_false_right, List.cons_append, List.nil_append, List.map_cons, List.map_nil]
    repeat' (first | apply And.intro | intro _hc)
    all_goals first | omega | exact AV.le_refl _ | exact AV.le_any _ | exact OLe.refl _ | exact OLe.none _ | exact LeH.refl _ | exact LeL.refl _ | exact AV.le.bs _ | exact AV.le.sb _ | exact rfl | (exfalso; omega) | contradiction
end Go.Eng.N
