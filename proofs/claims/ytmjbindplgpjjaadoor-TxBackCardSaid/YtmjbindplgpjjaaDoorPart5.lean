/- Texts that TB4r needs: EngAU and what follows it. -/
import Derived.Test.YtmjbindplgpjjaaDoorPart4
set_option linter.unnecessarySimpa false
set_option linter.unusedSectionVars false
set_option linter.unusedSimpArgs false
set_option linter.unusedVariables false
namespace Go.Eng
open Go
theorem mixU (c : Bool) (a b : Int) : mixL c [.v (.int .u8 a)] [.v (.int .u8 b)] = [.v (.int .u8 (bif c then a else b))] := by cases c <;> rfl
section
variable {P : Program} {Γ : Nat → AV}
theorem V.ptr_inv {σ : Store} {φ : Places} {i o : Nat} {y : Value} (h : V σ φ (.ptr i o) y) : ∃ L, φ i = some L ∧ L.virt = false := by
  cases h with
  | base h => cases h
  | ptr h hr => exact ⟨_, h, hr⟩
theorem V.hs_inv {σ : Store} {φ : Places} {i e n : Nat} {y : Value} (h : V σ φ (.hs i e n) y) : ∃ L, φ i = some L := by
  cases h with
  | base h => cases h
  | hs h hr => exact ⟨_, h⟩
  | hsnil A h => exact ⟨_, h⟩
theorem Answers.boxOut {f : FuncId} {args : List AV} {Hin : List Blk} {v : AV} {H1 : List (Option Blk)} {new : List Blk} (a i o j c c0 e0 n0 : Nat) {cs0 cs1 : List AV} {sz N : Nat} {g : Nat → List AV} (ha : args[a]? = some (.ptr i o)) (h0 : Hin[i]? = some (.row cs0)) (hc0 : cs0[c0]? = some (.hs j e0 n0))
    (hj : j < Hin.length) (h1 : H1[i]? = some (some (.row cs1))) (hc1 : cs1[c]? = some (.v (.slice none 0 0))) (hjr : H1[j]? = some (some (.arr sz N g))) (h : Answers P Γ f args Hin v H1 new) :
    Answers P Γ f args Hin v (H1.set i (some (.row (cs1.set c (.hs j N 0))))) new where
  len := by rw [List.length_set]; exact h.len
  enters := h.enters
  ok := by
    intro σ φ w vals hG hV hn hR
    have hlen := h.len
    have e0 : ({ val := v, upd := H1.map some, new := new } : Res).heap Hin = H1 ++ new.map some := by
      unfold Res.heap; rw [outOf_all _ _ hlen]
    have e1 : ({ val := v, upd := (H1.set i (some (.row (cs1.set c (.hs j N 0))))).map some, new := new } : Res).heap Hin = (H1 ++ new.map some).set i (some (.row (cs1.set c (.hs j N 0)))) := by
      unfold Res.heap
      rw [outOf_all _ _ (by rw [List.length_set]; exact hlen)]
      have hil : i < H1.length := (List.getElem?_eq_some_iff.1 h1).1
      rw [List.set_append_left _ _ hil]
    rw [e1]
    refine (h.ok σ φ w vals hG hV hn hR).mono fun e w' ⟨σ', φ', x, k1, k2, k3, k4, k5⟩ => ⟨σ', φ', x, k1, k2, ?_, k4, fun k hk => k5 k (by rw [e0]; rw [List.length_set] at hk; exact hk)⟩
    rw [e0] at k3
    obtain ⟨y, hy, hyv⟩ : ∃ y, vals.toList[a]? = some y ∧ V σ φ (.ptr i o) y := by
      have hal : a < args.length := (List.getElem?_eq_some_iff.1 ha).1
      have hal' : a < vals.toList.length := hV.1 ▸ hal
      exact ⟨_, List.getElem?_eq_getElem hal', hV.2 a _ _ ha (List.getElem?_eq_getElem hal')⟩
    obtain ⟨L, hL, hv⟩ := hyv.ptr_inv
    have hg0 : getH (Hin.map some) i = some (.row cs0) := by rw [getHmap, h0]
    obtain ⟨cc, _, _, _, hcell⟩ := hR.obj i _ L hg0 hL hv
    obtain ⟨yc, _, hyc⟩ := hcell c0 _ hc0
    obtain ⟨Lj, hLj⟩ := hyc.hs_inv
    have hLj' : φ' j = some Lj := by rw [k4 j hj]; exact hLj
    have hgj : getH (H1 ++ new.map some) j = some (.arr sz N g) := by
      unfold getH
      rw [List.getElem?_append_left (List.getElem?_eq_some_iff.1 hjr).1, hjr]
    have hgi : getH (H1 ++ new.map some) i = some (.row cs1) := by
      unfold getH
      rw [List.getElem?_append_left (List.getElem?_eq_some_iff.1 h1).1, h1]
    have hN := k3.len j Lj sz N g hgj hLj'
    refine k3.setRow hgi hc1 fun y hy => ?_
    obtain rfl := hy.v_eq
    exact .hsnil none hLj' (by omega) rfl
theorem Answers.nilSl {f : FuncId} {sz : Nat} {z : List AV} {g : Nat → List AV} (hz : z.length = sz) {M : List AV} (hM : M.length = sz) (h1 : ∀ cap, Answers P Γ f [.v (.slice none 0 cap)] [] (.v (.slice none 0 0)) [] [])
    (h2 : Answers P Γ f [.sl sz 0 fun _ => M] [] (.hs 0 0 0) [] [.arr sz 0 fun _ => z]) : Answers P Γ f [.sl sz 0 g] [] (.hs 0 0 0) [] [.arr sz 0 fun _ => z] where
  len := rfl
  enters := h2.enters
  ok := by
    intro σ φ w vals hG hV hn hR
    obtain ⟨y, hy, hv⟩ := hV.one_inv
    have hsl : ∀ (A : Option Addr) (cap : Nat), A ≠ none → y = .slice A 0 cap → VL σ φ [.sl sz 0 fun _ => M] vals.toList := fun A cap hA e => by
      rw [hy, e]
      exact .one (.base (.slnil sz 0 _ A cap (fun _ => hM) rfl (fun h => absurd h hA))) .none
    have hnil : ∀ cap : Nat, y = .slice none 0 cap → Calls P f vals w fun e w' => ∃ σ' φ' v, e = .returned v ∧ V σ' φ' (.hs 0 0 0) v ∧
      R ⟨w, σ, fun b => ∃ k L, φ k = some L ∧ L.virt = false ∧ L.b = b⟩ σ' φ' (getH (Res.heap [] { val := .hs 0 0 0, upd := [], new := [.arr sz 0 fun _ => z] })) w' ∧ (∀ k, k < 0 → φ' k = φ k) ∧ (∀ k, 1 ≤ k → φ' k = none) := fun cap he => by
      refine ((h1 cap).ok σ φ w vals hG (by rw [hy, he]; exact .one (V_v _) .none) hn hR).mono fun e w' ⟨σ', φ', v, e1, e2, e3, e4, e5⟩ => ?_
      have hnb : φ' 0 = none := e5 0 (Nat.le_refl 0)
      obtain rfl := e2.v_eq
      have hg : getH (Res.heap [] { val := .hs 0 0 0, upd := [], new := [.arr sz 0 fun _ => z] }) = updG (getH (Res.heap [] { val := .v (.slice none 0 0), upd := [] })) 0 (some (.arr sz 0 fun _ => z)) := by
        funext k
        exact getH_append (H := []) (bs := [Blk.arr sz 0 fun _ => z]) (k := k)
      refine ⟨σ', fresh φ' 0 ⟨0, 0, sz, 0, 0, true⟩, _, e1, .hsnil none fresh_at (Nat.le_refl 0) rfl, ?_, fun k hk => absurd hk (Nat.not_lt_zero k), fun k hk => ?_⟩
      · rw [hg]
        exact e3.virtual (L := ⟨0, 0, sz, 0, 0, true⟩) hnb rfl (some (.arr sz 0 fun _ => z)) (fun b' hb' => by simp at hb'; subst hb'; exact fun _ => hz) (fun _ _ _ h' => by cases h'; rfl)
      · have : k ≠ 0 := by omega
        simp only [fresh, this, if_false]
        exact e5 k (Nat.zero_le k)
    cases hv with
    | base h =>
      cases h with
      | sl _ _ _ ad cap ys hs => exact h2.ok σ φ w vals hG (hsl (some ad) cap (by simp) rfl) hn hR
      | slnil _ _ _ A cap hl _ ha =>
        by_cases hA : A = none
        · subst hA; exact hnil cap rfl
        · exact h2.ok σ φ w vals hG (hsl A cap hA rfl) hn hR
theorem Answers.cU {f : FuncId} {a0 : List AV} {H0 : List Blk} {v : AV} {H1 : List (Option Blk)} {new : List Blk} (h : Answers P Γ f a0 H0 v H1 new) {upd : List (Option (Option Blk))} (hu : outOf H0 upd = H1) : Contract P Γ f a0 H0 { val := v, upd := upd, new := new } :=
  h.ok.more (LeL.refl _) (LeH.refl _) (by
    unfold Res.heap
    rw [outOf_all _ _ h.len, hu]) rfl
noncomputable def exSpec {X : Type} (ext : List AV → List Blk → Option X) (pre : X → Prop) (v : X → AV) (upd : X → List (Option (Option Blk))) (new : X → List Blk) (args : List AV) (Hin : List Blk) : Tree Res :=
  match ext args Hin with
  | some x => .chk (cl (pre x)) (.leaf { val := v x, upd := upd x, new := new x })
  | none => .fail
noncomputable def CT.ex {X : Type} (f : FuncId) (ext : List AV → List Blk → Option X) (pre : X → Prop) (v : X → AV) (upd : X → List (Option (Option Blk))) (new : X → List Blk)
    (enters : ∀ (args : Array Value) (w : World), (callFunc f args).run P w = .ok (.enter f args) w) (h : ∀ args Hin x, ext args Hin = some x → pre x → Contract P Γ f args Hin { val := v x, upd := upd x, new := new x }) : CT P Γ where
  f := f
  spec := exSpec ext pre v upd new
  enters := enters
  ok := fun args Hin r hr => by
    unfold exSpec at hr
    split at hr
    · rename_i x hx
      obtain ⟨h1, hr⟩ := Tree.chk_get hr
      obtain rfl := Tree.leaf_get hr
      exact h args Hin x hx (cl_iff.1 h1)
    · simp [Tree.get] at hr
end
end Go.Eng

namespace Go.Eng
open Go
theorem and127 (a : Int) (h : 0 ≤ a) (h' : a < 256) : bitI .and .u8 a 127 = a % 128 := by
  obtain ⟨n, rfl⟩ := Int.eq_ofNat_of_zero_le h
  have : ∀ k : Fin 256, bitI .and .u8 ((k.val : Nat) : Int) 127 = ((k.val : Nat) : Int) % 128 := by decide +kernel
  exact this ⟨n, by omega⟩
theorem pow128 (i : Nat) : (128 : Nat) ^ i = 2 ^ (7 * i) := by rw [show (128 : Nat) = 2 ^ 7 from rfl, ← Nat.pow_mul]
theorem pow128_le {i : Nat} (h : i ≤ 8) : (128 : Nat) ^ i ≤ 72057594037927936 := by
  have : (128 : Nat) ^ i ≤ 128 ^ 8 := Nat.pow_le_pow_right (by decide) h
  exact Nat.le_trans this (by decide)
theorem or_u64 (a b : Nat) (ha : a < 2 ^ 64) (hb : b < 2 ^ 64) : bitI .or .u64 (a : Int) (b : Int) = ((a ||| b : Nat) : Int) := by
  show IntKind.u64.wrap (((BitVec.ofInt 64 (a : Int) ||| BitVec.ofInt 64 (b : Int)).toNat : Nat) : Int) = _
  have e1 : ∀ x : Nat, x < 2 ^ 64 → (BitVec.ofInt 64 (x : Int)).toNat = x := fun x hx => by rw [BitVec.toNat_ofInt]; omega
  rw [BitVec.toNat_or, e1 a ha, e1 b hb, wrapU64]
  have := Nat.or_lt_two_pow ha hb
  omega
theorem dig {n i : Nat} {c : Int} (hn : n < 128 ^ i) (hi : i ≤ 8) (h : 0 ≤ c) (h' : c < 256) :
    bitI .or .u64 (n : Int) (IntKind.u64.wrap (IntKind.u64.wrap (bitI .and .u8 c 127) * (2 : Int) ^ min (IntKind.i64.wrap ((7 : Int) * (i : Int))).toNat 64)) = ((n + c.toNat % 128 * 128 ^ i : Nat) : Int) := by
  obtain ⟨k, rfl⟩ := Int.eq_ofNat_of_zero_le h
  have e1 : IntKind.i64.wrap ((7 : Int) * (i : Int)) = ((7 * i : Nat) : Int) := by rw [wrap64E]; omega
  have e2 : IntKind.u64.wrap (bitI .and .u8 (k : Int) 127) = ((k % 128 : Nat) : Int) := by rw [and127 _ h h', wrapU64]; omega
  have e3 : min (7 * i) 64 = 7 * i := Nat.min_eq_left (by omega)
  have hp := pow128_le hi
  have hk : k % 128 < 128 := Nat.mod_lt _ (by decide)
  have hm : k % 128 * 128 ^ i ≤ 127 * 72057594037927936 := Nat.mul_le_mul (by omega) hp
  rw [e1, e2, Int.toNat_natCast, e3]
  have e4 : ((k % 128 : Nat) : Int) * (2 : Int) ^ (7 * i) = ((k % 128 * 128 ^ i : Nat) : Int) := by
    rw [pow128]; simp
  rw [e4]
  have e5 : IntKind.u64.wrap ((k % 128 * 128 ^ i : Nat) : Int) = ((k % 128 * 128 ^ i : Nat) : Int) := by rw [wrapU64]; omega
  rw [e5, or_u64 _ _ (by omega) (by omega), Int.toNat_natCast]
  congr 1
  rw [Nat.or_comm, Nat.mul_comm, pow128]
  rw [pow128] at hn
  rw [← Nat.two_pow_add_eq_or_of_lt hn]
  omega
def byt (t : ByteArray) (j : Nat) : Nat := (sbyte t j).toNat
theorem byt_lt (t : ByteArray) (j : Nat) : byt t j < 256 := by
  have := sbyte_range t j
  unfold byt; omega
theorem sbyte_byt (t : ByteArray) (j : Nat) : sbyte t j = (byt t j : Int) := by
  have := sbyte_range t j
  unfold byt; omega
def vAt (t : ByteArray) (off : Nat) : Nat → Nat
  | 0 => 0
  | i + 1 => vAt t off i + byt t (off + i) % 128 * 128 ^ i
theorem vAt_lt (t : ByteArray) (off : Nat) : ∀ i, vAt t off i < 128 ^ i
  | 0 => by simp [vAt]
  | i + 1 => by
    have h := vAt_lt t off i
    have hk : byt t (off + i) % 128 ≤ 127 := by omega
    have : byt t (off + i) % 128 * 128 ^ i ≤ 127 * 128 ^ i := Nat.mul_le_mul_right _ hk
    simp only [vAt, Nat.pow_succ]
    omega
theorem vAt_front (t : ByteArray) (off : Nat) : ∀ i, vAt t off (i + 1) = byt t off % 128 + 128 * vAt t (off + 1) i
  | 0 => by simp [vAt]
  | i + 1 => by
    rw [vAt, vAt_front t off i, vAt, show off + (i + 1) = off + 1 + i by omega, Nat.pow_succ, Nat.mul_add]
    have : byt t (off + 1 + i) % 128 * (128 ^ i * 128) = 128 * (byt t (off + 1 + i) % 128 * 128 ^ i) := by
      rw [Nat.mul_comm (128 ^ i) 128, ← Nat.mul_assoc, Nat.mul_comm _ 128, Nat.mul_assoc]
    omega
structure GoodAt (t : ByteArray) (off i : Nat) : Prop where
  hi : ∀ j, j < i → 128 ≤ byt t (off + j)
  lo : byt t (off + i) < 128
  nz : 0 < i → byt t (off + i) ≠ 0
theorem GoodAt.tail {t : ByteArray} {off i : Nat} (h : GoodAt t off (i + 1)) : GoodAt t (off + 1) i where
  hi := fun j hj => by have := h.hi (j + 1) (by omega); rwa [show off + (j + 1) = off + 1 + j by omega] at this
  lo := by have := h.lo; rwa [show off + (i + 1) = off + 1 + i by omega] at this
  nz := fun _ => by have := h.nz (by omega); rwa [show off + (i + 1) = off + 1 + i by omega] at this
theorem vAt_pos {t : ByteArray} : ∀ {i off : Nat}, GoodAt t off i → 0 < i → 0 < vAt t off (i + 1)
  | 0, _, _, h => absurd h (Nat.lt_irrefl _)
  | i + 1, off, h, _ => by
    have h1 := h.nz (by omega)
    have h2 := h.lo
    have : 0 < byt t (off + (i + 1)) % 128 := by omega
    have h3 : 0 < byt t (off + (i + 1)) % 128 * 128 ^ (i + 1) := Nat.mul_pos this (Nat.pow_pos (by decide))
    rw [vAt]; omega
theorem GoodAt.bytes {t : ByteArray} : ∀ {i off : Nat}, GoodAt t off i → (numB (vAt t off (i + 1))).size = i + 1 ∧ ∀ j, j ≤ i → sbyte (numB (vAt t off (i + 1))) j = sbyte t (off + j)
  | 0, off, h => by
    have hl := h.lo
    rw [Nat.add_zero] at hl
    have e : vAt t off 1 = byt t off := by simp [vAt]; omega
    have e2 : numB (byt t off) = oneB (byt t off) := by
      unfold numB
      rw [hiB_lt hl, loN_lt hl, empty_append]
    rw [e, e2]
    refine ⟨rfl, fun j hj => ?_⟩
    obtain rfl : j = 0 := Nat.le_zero.1 hj
    rw [sbyte_oneB (byt_lt t off), Nat.add_zero, sbyte_byt]
  | i + 1, off, h => by
    have ht := h.tail
    obtain ⟨h1, h2⟩ := GoodAt.bytes ht
    have h0 := h.hi 0 (by omega)
    rw [Nat.add_zero] at h0
    have hb := byt_lt t off
    have e := vAt_front t off (i + 1)
    have hpos : 0 < vAt t (off + 1) (i + 1) := by
      rcases Nat.eq_zero_or_pos i with rfl | hi
      · have h3 := h.nz (by omega)
        have h4 := h.lo
        simp only [Nat.zero_add] at h3 h4
        have : vAt t (off + 1) (0 + 1) = byt t (off + 1) % 128 := by simp [vAt]
        omega
      · exact vAt_pos ht hi
    have hge : ¬ vAt t off (i + 1 + 1) < 128 := by omega
    have hd : vAt t off (i + 1 + 1) / 128 = vAt t (off + 1) (i + 1) := by omega
    have hm : vAt t off (i + 1 + 1) % 128 + 128 = byt t off := by omega
    have en : numB (vAt t off (i + 1 + 1)) = oneB (byt t off) ++ numB (vAt t (off + 1) (i + 1)) := by
      show hiB _ ++ oneB (loN _) = _
      rw [hiB_ge hge, loN_ge hge, hd, hm, ByteArray.append_assoc]
      rfl
    rw [en]
    refine ⟨by simp [h1]; omega, fun j hj => ?_⟩
    rw [sbyte_append]
    cases j with
    | zero => rw [if_pos (by simp), sbyte_oneB hb, Nat.add_zero, sbyte_byt]
    | succ j =>
      rw [if_neg (by simp), show j + 1 - (oneB (byt t off)).size = j by simp, h2 j (by omega), show off + (j + 1) = off + 1 + j by omega]
theorem numB_good (n : Nat) : ∀ (t : ByteArray) (off : Nat), (∀ j, j < (numB n).size → sbyte t (off + j) = sbyte (numB n) j) → ∃ i, (numB n).size = i + 1 ∧ GoodAt t off i ∧ vAt t off (i + 1) = n := by
  induction n using Nat.strongRecOn with
  | _ n ih =>
    intro t off h
    by_cases hl : n < 128
    · have e2 : numB n = oneB n := by
        unfold numB
        rw [hiB_lt hl, loN_lt hl, empty_append]
      rw [e2] at h ⊢
      have h0 := h 0 (by simp)
      rw [sbyte_oneB (by omega), Nat.add_zero, sbyte_byt] at h0
      have h0 : byt t off = n := by omega
      refine ⟨0, rfl, ⟨fun j hj => absurd hj (Nat.not_lt_zero _), by rw [Nat.add_zero, h0]; exact hl, fun h => absurd h (Nat.lt_irrefl _)⟩, ?_⟩
      simp [vAt, h0]; omega
    · have en : numB n = oneB (n % 128 + 128) ++ numB (n / 128) := by
        show hiB _ ++ oneB (loN _) = _
        rw [hiB_ge hl, loN_ge hl, ByteArray.append_assoc]
        rfl
      have h0 := h 0 (by rw [en]; simp; omega)
      rw [en, sbyte_append, if_pos (by simp), sbyte_oneB (by omega), Nat.add_zero, sbyte_byt] at h0
      have h0 : byt t off = n % 128 + 128 := by omega
      obtain ⟨i, h1, h2, h3⟩ := ih (n / 128) (by omega) t (off + 1) fun j hj => by
        have := h (j + 1) (by rw [en]; simp; omega)
        rw [en, sbyte_append, if_neg (by simp), show j + 1 - (oneB (n % 128 + 128)).size = j by simp, show off + (j + 1) = off + 1 + j by omega] at this
        exact this
      refine ⟨i + 1, by rw [en]; simp [h1]; omega, ⟨fun j hj => ?_, ?_, fun _ => ?_⟩, ?_⟩
      · cases j with
        | zero => rw [Nat.add_zero, h0]; omega
        | succ j => have := h2.hi j (by omega); rwa [show off + (j + 1) = off + 1 + j by omega]
      · have := h2.lo; rwa [show off + (i + 1) = off + 1 + i by omega]
      · rw [show off + (i + 1) = off + 1 + i by omega]
        rcases Nat.eq_zero_or_pos i with rfl | hi
        · intro hz
          simp only [Nat.add_zero] at hz
          simp [vAt, hz] at h3
          omega
        · exact h2.nz hi
      · rw [vAt_front, h3, h0]; omega
end Go.Eng

namespace Go.Eng.RD
open Go Go.Eng
def BadC (t : ByteArray) (off k : Nat) : Prop := (byt t (off + k) < 128 ∧ byt t (off + k) = 0 ∧ 0 < k) ∨ (k = 8 ∧ (128 ≤ byt t (off + k) ∨ 4611686018427387904 < vAt t off (k + 1)))
def IsGood (t : ByteArray) (off len k : Nat) : Prop := k < len ∧ k ≤ 8 ∧ GoodAt t off k ∧ vAt t off (k + 1) ≤ 4611686018427387904
def IsCut (t : ByteArray) (off len : Nat) : Prop := len ≤ 8 ∧ ∀ j, j < len → 128 ≤ byt t (off + j)
def IsBad (t : ByteArray) (off len k : Nat) : Prop := k < len ∧ k ≤ 8 ∧ (∀ j, j < k → 128 ≤ byt t (off + j)) ∧ BadC t off k
theorem firstLow (t : ByteArray) (off : Nat) : ∀ m, (∀ j, j < m → 128 ≤ byt t (off + j)) ∨ ∃ k, k < m ∧ (∀ j, j < k → 128 ≤ byt t (off + j)) ∧ byt t (off + k) < 128
  | 0 => .inl fun j hj => absurd hj (Nat.not_lt_zero _)
  | m + 1 => by
    rcases firstLow t off m with h | ⟨k, h1, h2, h3⟩
    · by_cases hb : byt t (off + m) < 128
      · exact .inr ⟨m, Nat.lt_succ_self m, h, hb⟩
      · refine .inl fun j hj => ?_
        rcases Nat.lt_succ_iff_lt_or_eq.1 hj with h' | rfl
        · exact h j h'
        · omega
    · exact .inr ⟨k, Nat.lt_succ_of_lt h1, h2, h3⟩
theorem classify (t : ByteArray) (off len : Nat) : (∃ k, IsGood t off len k) ∨ IsCut t off len ∨ ∃ k, IsBad t off len k := by
  rcases firstLow t off (min len 9) with h | ⟨k, h1, h2, h3⟩
  · by_cases hl : len ≤ 8
    · exact .inr (.inl ⟨hl, fun j hj => h j (by omega)⟩)
    · exact .inr (.inr ⟨8, by omega, by omega, fun j hj => h j (by omega), .inr ⟨rfl, .inl (h 8 (by omega))⟩⟩)
  · by_cases hz : 0 < k ∧ byt t (off + k) = 0
    · exact .inr (.inr ⟨k, by omega, by omega, h2, .inl ⟨h3, hz.2, hz.1⟩⟩)
    · by_cases hv : k = 8 ∧ 4611686018427387904 < vAt t off (k + 1)
      · exact .inr (.inr ⟨k, by omega, by omega, h2, .inr ⟨hv.1, .inr hv.2⟩⟩)
      · refine .inl ⟨k, by omega, by omega, ⟨h2, h3, fun hp h0 => hz ⟨hp, h0⟩⟩, ?_⟩
        by_cases h8 : k = 8
        · omega
        · have h4 := vAt_lt t off (k + 1)
          have h5 : (128 : Nat) ^ (k + 1) ≤ 128 ^ 8 := Nat.pow_le_pow_right (by decide) (by omega)
          have h6 : (128 : Nat) ^ 8 = 72057594037927936 := by decide
          omega
theorem good_unique {t : ByteArray} {off len k k' : Nat} (h : IsGood t off len k) (h' : IsGood t off len k') : k = k' := by
  rcases Nat.lt_trichotomy k k' with hl | rfl | hl
  · have := h'.2.2.1.hi k hl; have := h.2.2.1.lo; omega
  · rfl
  · have := h.2.2.1.hi k' hl; have := h'.2.2.1.lo; omega
open Classical in
noncomputable def kG (t : ByteArray) (off len : Nat) : Nat := if h : ∃ k, IsGood t off len k then h.choose else 0
theorem kG_of {t : ByteArray} {off len k : Nat} (h : IsGood t off len k) : kG t off len = k := by
  have h' : ∃ k, IsGood t off len k := ⟨k, h⟩
  unfold kG
  rw [dif_pos h']
  exact good_unique h'.choose_spec h
def qG (t : ByteArray) (off : Nat) : Prop := ∃ k, IsGood t off (t.size - off) k
open Classical in
noncomputable def qN (t : ByteArray) (off : Nat) (e : Int) : Int := if ¬ e = 0 then 0 else if qG t off then (vAt t off (kG t off (t.size - off) + 1) : Int) else 0
open Classical in
noncomputable def qO (t : ByteArray) (off : Nat) (e : Int) : Nat := if ¬ e = 0 then off else if qG t off then off + (kG t off (t.size - off) + 1) else t.size
open Classical in
noncomputable def qE (t : ByteArray) (off : Nat) (e : Int) : Int := if ¬ e = 0 then e else if qG t off then 0 else if IsCut t off (t.size - off) then 30 else 31
theorem qN_bad {t : ByteArray} {off : Nat} {e : Int} (h : ¬ e = 0) : qN t off e = 0 := if_pos h
theorem qO_bad {t : ByteArray} {off : Nat} {e : Int} (h : ¬ e = 0) : qO t off e = off := if_pos h
theorem qE_bad {t : ByteArray} {off : Nat} {e : Int} (h : ¬ e = 0) : qE t off e = e := if_pos h
theorem q_good {t : ByteArray} {off k : Nat} (h : IsGood t off (t.size - off) k) : qN t off 0 = (vAt t off (k + 1) : Int) ∧ qO t off 0 = off + (k + 1) ∧ qE t off 0 = 0 := by
  have g : qG t off := ⟨k, h⟩
  unfold qN qO qE
  rw [if_neg (by simp), if_pos g, if_neg (by simp), if_pos g, if_neg (by simp), if_pos g, kG_of h]
  exact ⟨rfl, rfl, rfl⟩
theorem q_cut {t : ByteArray} {off : Nat} (h : IsCut t off (t.size - off)) : qN t off 0 = 0 ∧ qO t off 0 = t.size ∧ qE t off 0 = 30 := by
  have g : ¬ qG t off := fun ⟨k, h1, h2, h3, h4⟩ => by
    have := h.2 k h1; have := h3.lo; omega
  unfold qN qO qE
  rw [if_neg (by simp), if_neg g, if_neg (by simp), if_neg g, if_neg (by simp), if_neg g, if_pos h]
  exact ⟨rfl, rfl, rfl⟩
theorem q_no {t : ByteArray} {off k : Nat} (h : IsBad t off (t.size - off) k) : qN t off 0 = 0 ∧ qO t off 0 = t.size ∧ qE t off 0 = 31 := by
  obtain ⟨h1, h2, h3, h4⟩ := h
  have g : ¬ qG t off := fun ⟨k', g1, g2, g3, g4⟩ => by
    rcases Nat.lt_trichotomy k k' with hl | rfl | hl
    · have := g3.hi k hl
      rcases h4 with ⟨b1, b2, b3⟩ | ⟨b1, b2⟩
      · omega
      · omega
    · rcases h4 with ⟨b1, b2, b3⟩ | ⟨b1, b2⟩
      · exact g3.nz b3 b2
      · have := g3.lo; omega
    · have := h3 k' hl; have := g3.lo; omega
  have c : ¬ IsCut t off (t.size - off) := fun ⟨c1, c2⟩ => by
    have := c2 k h1
    rcases h4 with ⟨b1, b2, b3⟩ | ⟨b1, b2⟩
    · omega
    · omega
  unfold qN qO qE
  rw [if_neg (by simp), if_neg g, if_neg (by simp), if_neg g, if_neg (by simp), if_neg g, if_neg c]
  exact ⟨rfl, rfl, rfl⟩
theorem qO_le {t : ByteArray} {off : Nat} {e : Int} (h : off ≤ t.size) : off ≤ qO t off e ∧ qO t off e ≤ t.size := by
  by_cases he : e = 0
  · subst he
    rcases classify t off (t.size - off) with ⟨k, hk⟩ | hc | ⟨k, hk⟩
    · rw [(q_good hk).2.1]
      have := hk.1
      omega
    · rw [(q_cut hc).2.1]; omega
    · rw [(q_no hk).2.1]; omega
  · rw [qO_bad he]; omega
theorem qN_range {t : ByteArray} {off : Nat} {e : Int} : 0 ≤ qN t off e ∧ qN t off e ≤ 4611686018427387904 := by
  by_cases he : e = 0
  · subst he
    rcases classify t off (t.size - off) with ⟨k, hk⟩ | hc | ⟨k, hk⟩
    · rw [(q_good hk).1]
      have := hk.2.2.2
      omega
    · rw [(q_cut hc).1]; omega
    · rw [(q_no hk).1]; omega
  · rw [qN_bad he]; omega
def okS (t : ByteArray) (off : Nat) (e : Int) : Prop := off ≤ t.size ∧ (e = 0 ∨ off = t.size)
theorem q_okS {t : ByteArray} {off : Nat} {e : Int} (h : okS t off e) : okS t (qO t off e) (qE t off e) := by
  refine ⟨(qO_le h.1).2, ?_⟩
  by_cases he : e = 0
  · subst he
    rcases classify t off (t.size - off) with ⟨k, hk⟩ | hc | ⟨k, hk⟩
    · exact .inl (q_good hk).2.2
    · exact .inr (q_cut hc).2.1
    · exact .inr (q_no hk).2.1
  · rw [qO_bad he]; exact .inr (h.2.resolve_left he)
end Go.Eng.RD

namespace Go.Eng.TA
open Go Go.Eng Go.Eng.M Go.Eng.RD Go.Lib Go.Proofs
noncomputable def kFail : CT Tryd.prog Γm := CT.auto false 100 3 [] 96 Tryd.f96 (bodyOf Tryd.f96) false 24 [] Tryd.func96 (by kernel_rfl) (by kernel_rfl) (by kernel_rfl) (by kernel_rfl)
noncomputable def loopP : Code := loopOf (bodyOf Tryd.f95) 0
theorem roundP (off len N i : Nat) (n : Nat) (t : ByteArray) : roundE (P := Tryd.prog) (Γ := Γm) [kFail] Lno false 2 0 loopP [0, 19, 20, 21, 3, 2] [] 75 [.ptr 0 0, .hs 1 off len, .v (.int .i64 (len : Int)), .v (.int .i64 (i : Int)), .v (.int .u64 (n : Int)), .any] [some (.row [.hs 1 off len, .v (.int .i64 0)]), some (.arr 1 N (bsF t))] =
  Tree.br (decide ((↑i : Int) < (↑len : Int))) (.chk (decide ((0 : Int) ≤ (↑i : Int)) && decide ((↑i : Int) < (↑len : Int))) (.chk (decide ((0 : Int) ≤ IntKind.wrap IntKind.i64 ((7 : Int) * 
    (↑i : Int)))) (.br (bif decide (sbyte t (off + i) < (128 : Int)) then bif decide (sbyte t (off + i) = (0 : Int)) then decide ((0 : Int) < (↑i : Int)) else false else false) (.br 
    (bif decide (sbyte t (off + i) < (128 : Int)) then bif decide (sbyte t (off + i) = (0 : Int)) then decide ((0 : Int) < (↑i : Int)) else false else false) (.br true (.leaf (.mk .ret 
    [.ptr 0 0, .hs (1 : Nat) off len, .v (.int .i64 (↑len : Int)), .v (.int .i64 (↑i : Int)), .v (.int IntKind.u64 (bitI BinOp.or IntKind.u64 (↑n : Int) (IntKind.wrap IntKind.u64 
    (IntKind.wrap IntKind.u64 (bitI BinOp.and IntKind.u8 (sbyte t (off + i)) (127 : Int)) * (2 : Int) ^ min (Int.toNat (IntKind.wrap IntKind.i64 ((7 : Int) * (↑i : Int)))) (64 : 
    Nat))))), .v (.int .i64 (0 : Int))] [some (.row [.v (.slice none (0 : Nat) (0 : Nat)), .v (.int .i64 (31 : Int))]), some (.arr 1 N fun j => [.v (.int IntKind.u8 (sbyte t j))])])) 
    (.leaf (.mk .ret [.ptr 0 0, .hs (1 : Nat) off len, .v (.int .i64 (↑len : Int)), .v (.int .i64 (↑i : Int)), .v (.int IntKind.u64 (bitI BinOp.or IntKind.u64 (↑n : Int) (IntKind.wrap 
    IntKind.u64 (IntKind.wrap IntKind.u64 (bitI BinOp.and IntKind.u8 (sbyte t (off + i)) (127 : Int)) * (2 : Int) ^ min (Int.toNat (IntKind.wrap IntKind.i64 ((7 : Int) * (↑i : Int)))) 
    (64 : Nat))))), .v (.int .i64 (0 : Int))] [some (.row [.hs (1 : Nat) off len, .v (.int .i64 (0 : Int))]), some (.arr 1 N fun j => [.v (.int IntKind.u8 (sbyte t j))])]))) (.br 
    (decide (sbyte t (off + i) < (128 : Int))) (.chk (decide ((0 : Int) ≤ IntKind.wrap IntKind.i64 ((↑i : Int) + (1 : Int))) && decide (IntKind.wrap IntKind.i64 ((↑i : Int) + (1 : 
    Int)) ≤ (↑len : Int)) && decide ((↑len : Int) ≤ (↑len : Int))) (.leaf (.mk .ret [.ptr 0 0, .hs (1 : Nat) off len, .v (.int .i64 (↑len : Int)), .v (.int .i64 (↑i : Int)), .v (.int 
    IntKind.u64 (bitI BinOp.or IntKind.u64 (↑n : Int) (IntKind.wrap IntKind.u64 (IntKind.wrap IntKind.u64 (bitI BinOp.and IntKind.u8 (sbyte t (off + i)) (127 : Int)) * (2 : Int) ^ min 
    (Int.toNat (IntKind.wrap IntKind.i64 ((7 : Int) * (↑i : Int)))) (64 : Nat))))), .v (.int .i64 (IntKind.wrap IntKind.i64 (bitI BinOp.or IntKind.u64 (↑n : Int) (IntKind.wrap 
    IntKind.u64 (IntKind.wrap IntKind.u64 (bitI BinOp.and IntKind.u8 (sbyte t (off + i)) (127 : Int)) * (2 : Int) ^ min (Int.toNat (IntKind.wrap IntKind.i64 ((7 : Int) * (↑i : Int)))) 
    (64 : Nat))))))] [some (.row [.hs (1 : Nat) (off + Int.toNat (IntKind.wrap IntKind.i64 ((↑i : Int) + (1 : Int)))) (len - Int.toNat (IntKind.wrap IntKind.i64 ((↑i : Int) + (1 : 
    Int)))), .v (.int .i64 (0 : Int))]), some (.arr 1 N fun j => [.v (.int IntKind.u8 (sbyte t j))])]))) (.leaf (.mk .normal [.ptr 0 0, .hs (1 : Nat) off len, .v (.int .i64 (↑len : 
    Int)), .v (.int .i64 (IntKind.wrap IntKind.i64 ((↑i : Int) + (1 : Int)))), .v (.int IntKind.u64 (bitI BinOp.or IntKind.u64 (↑n : Int) (IntKind.wrap IntKind.u64 (IntKind.wrap 
    IntKind.u64 (bitI BinOp.and IntKind.u8 (sbyte t (off + i)) (127 : Int)) * (2 : Int) ^ min (Int.toNat (IntKind.wrap IntKind.i64 ((7 : Int) * (↑i : Int)))) (64 : Nat))))), .any] 
    [some (.row [.hs (1 : Nat) off len, .v (.int .i64 (0 : Int))]), some (.arr 1 N fun j => [.v (.int IntKind.u8 (sbyte t j))])])))) (.br (bif decide ((↑i : Int) = (8 : Int)) then bif 
    !decide (sbyte t (off + i) < (128 : Int)) then true else decide ((4611686018427387904 : Int) < bitI BinOp.or IntKind.u64 (↑n : Int) (IntKind.wrap IntKind.u64 (IntKind.wrap 
    IntKind.u64 (bitI BinOp.and IntKind.u8 (sbyte t (off + i)) (127 : Int)) * (2 : Int) ^ min (Int.toNat (IntKind.wrap IntKind.i64 ((7 : Int) * (↑i : Int)))) (64 : Nat)))) else false) 
    (.br true (.leaf (.mk .ret [.ptr 0 0, .hs (1 : Nat) off len, .v (.int .i64 (↑len : Int)), .v (.int .i64 (↑i : Int)), .v (.int IntKind.u64 (bitI BinOp.or IntKind.u64 (↑n : Int) 
    (IntKind.wrap IntKind.u64 (IntKind.wrap IntKind.u64 (bitI BinOp.and IntKind.u8 (sbyte t (off + i)) (127 : Int)) * (2 : Int) ^ min (Int.toNat (IntKind.wrap IntKind.i64 ((7 : Int) * 
    (↑i : Int)))) (64 : Nat))))), .v (.int .i64 (0 : Int))] [some (.row [.v (.slice none (0 : Nat) (0 : Nat)), .v (.int .i64 (31 : Int))]), some (.arr 1 N fun j => [.v (.int IntKind.u8 
    (sbyte t j))])])) (.leaf (.mk .ret [.ptr 0 0, .hs (1 : Nat) off len, .v (.int .i64 (↑len : Int)), .v (.int .i64 (↑i : Int)), .v (.int IntKind.u64 (bitI BinOp.or IntKind.u64 (↑n : 
    Int) (IntKind.wrap IntKind.u64 (IntKind.wrap IntKind.u64 (bitI BinOp.and IntKind.u8 (sbyte t (off + i)) (127 : Int)) * (2 : Int) ^ min (Int.toNat (IntKind.wrap IntKind.i64 ((7 : 
    Int) * (↑i : Int)))) (64 : Nat))))), .v (.int .i64 (0 : Int))] [some (.row [.hs (1 : Nat) off len, .v (.int .i64 (0 : Int))]), some (.arr 1 N fun j => [.v (.int IntKind.u8 (sbyte t 
    j))])]))) (.br (decide (sbyte t (off + i) < (128 : Int))) (.chk (decide ((0 : Int) ≤ IntKind.wrap IntKind.i64 ((↑i : Int) + (1 : Int))) && decide (IntKind.wrap IntKind.i64 ((↑i : 
    Int) + (1 : Int)) ≤ (↑len : Int)) && decide ((↑len : Int) ≤ (↑len : Int))) (.leaf (.mk .ret [.ptr 0 0, .hs (1 : Nat) off len, .v (.int .i64 (↑len : Int)), .v (.int .i64 (↑i : 
    Int)), .v (.int IntKind.u64 (bitI BinOp.or IntKind.u64 (↑n : Int) (IntKind.wrap IntKind.u64 (IntKind.wrap IntKind.u64 (bitI BinOp.and IntKind.u8 (sbyte t (off + i)) (127 : Int)) * 
    (2 : Int) ^ min (Int.toNat (IntKind.wrap IntKind.i64 ((7 : Int) * (↑i : Int)))) (64 : Nat))))), .v (.int .i64 (IntKind.wrap IntKind.i64 (bitI BinOp.or IntKind.u64 (↑n : Int) 
    (IntKind.wrap IntKind.u64 (IntKind.wrap IntKind.u64 (bitI BinOp.and IntKind.u8 (sbyte t (off + i)) (127 : Int)) * (2 : Int) ^ min (Int.toNat (IntKind.wrap IntKind.i64 ((7 : Int) * 
    (↑i : Int)))) (64 : Nat))))))] [some (.row [.hs (1 : Nat) (off + Int.toNat (IntKind.wrap IntKind.i64 ((↑i : Int) + (1 : Int)))) (len - Int.toNat (IntKind.wrap IntKind.i64 ((↑i : 
    Int) + (1 : Int)))), .v (.int .i64 (0 : Int))]), some (.arr 1 N fun j => [.v (.int IntKind.u8 (sbyte t j))])]))) (.leaf (.mk .normal [.ptr 0 0, .hs (1 : Nat) off len, .v (.int .i64 
    (↑len : Int)), .v (.int .i64 (IntKind.wrap IntKind.i64 ((↑i : Int) + (1 : Int)))), .v (.int IntKind.u64 (bitI BinOp.or IntKind.u64 (↑n : Int) (IntKind.wrap IntKind.u64 
    (IntKind.wrap IntKind.u64 (bitI BinOp.and IntKind.u8 (sbyte t (off + i)) (127 : Int)) * (2 : Int) ^ min (Int.toNat (IntKind.wrap IntKind.i64 ((7 : Int) * (↑i : Int)))) (64 : 
    Nat))))), .any] [some (.row [.hs (1 : Nat) off len, .v (.int .i64 (0 : Int))]), some (.arr 1 N fun j => [.v (.int IntKind.u8 (sbyte t j))])]))))))) (.leaf (.mk (.exit 0) [.ptr 0 0, 
    .hs (1 : Nat) off len, .v (.int .i64 (↑len : Int)), .v (.int .i64 (↑i : Int)), .v (.int IntKind.u64 (↑n : Int)), .any] [some (.row [.hs (1 : Nat) off len, .v (.int .i64 (0 : 
    Int))]), some (.arr 1 N fun j => [.v (.int IntKind.u8 (sbyte t j))])])) := by kernel_rfl
def rdB (off len N : Nat) (t : ByteArray) : List Blk := [.row [.hs 1 off len, .v (.int .i64 0)], .arr 1 N (bsF t)]
def badB (e : Int) (N : Nat) (t : ByteArray) : List (Option Blk) := [some (.row [.v (.slice none 0 0), .v (.int .i64 e)]), some (.arr 1 N (bsF t))]
def SP (off len N : Nat) (t : ByteArray) (i : Nat) : List AV × Heap := ([.ptr 0 0, .hs 1 off len, .v (.int .i64 (len : Int)), .v (.int .i64 (i : Int)), .v (.int .u64 (vAt t off i : Int)), .any], (rdB off len N t).map some)
def OPg (off len N : Nat) (t : ByteArray) (k : Nat) : Out := ⟨.ret, [.any, .any, .any, .any, .any, .v (.int .i64 (vAt t off (k + 1) : Int))], (rdB (off + (k + 1)) (len - (k + 1)) N t).map some⟩
def OPb (N : Nat) (t : ByteArray) : Out := ⟨.ret, [.any, .any, .any, .any, .any, .v (.int .i64 0)], badB 31 N t⟩
def OPc (off len N : Nat) (t : ByteArray) : Out := ⟨.exit 0, [.ptr 0 0, .any, .any, .any, .any, .any], (rdB off len N t).map some⟩
theorem stepP {t : ByteArray} {off len N i : Nat} {Q : Out → Prop} (hi : i ≤ 8) (hlt : i < len) (hlen : len ≤ 1000000000000) :
    (∀ (c : Nat), c = byt t (off + i) →
      ((c < 128 ∧ c = 0 ∧ 0 < i) ∨ (i = 8 ∧ (128 ≤ c ∨ 4611686018427387904 < vAt t off (i + 1))) → Q ⟨.ret, [.ptr 0 0, .hs 1 off len, .v (.int .i64 (len : Int)), .v (.int .i64 (i : Int)), .v (.int .u64 (vAt t off (i + 1) : Int)), .v (.int .i64 0)], badB 31 N t⟩) ∧
      (c < 128 → (0 < i → c ≠ 0) → (i = 8 → vAt t off (i + 1) ≤ 4611686018427387904) → Q ⟨.ret, [.ptr 0 0, .hs 1 off len, .v (.int .i64 (len : Int)), .v (.int .i64 (i : Int)), .v (.int .u64 (vAt t off (i + 1) : Int)), .v (.int .i64 (vAt t off (i + 1) : Int))], (rdB (off + (i + 1)) (len - (i + 1)) N t).map some⟩) ∧
      (128 ≤ c → i < 8 → Q ⟨.normal, [.ptr 0 0, .hs 1 off len, .v (.int .i64 (len : Int)), .v (.int .i64 ((i + 1 : Nat) : Int)), .v (.int .u64 (vAt t off (i + 1) : Int)), .any], (rdB off len N t).map some⟩)) →
    (roundE (P := Tryd.prog) (Γ := Γm) [kFail] Lno false 2 0 loopP [0, 19, 20, 21, 3, 2] [] 75 [.ptr 0 0, .hs 1 off len, .v (.int .i64 (len : Int)), .v (.int .i64 (i : Int)), .v (.int .u64 (vAt t off i : Int)), .any] [some (.row [.hs 1 off len, .v (.int .i64 0)]), some (.arr 1 N (bsF t))]).sat Q := by
  intro h
  obtain ⟨h1, h2, h3⟩ := h _ rfl
  have hr := sbyte_range t (off + i)
  have hd := dig (c := sbyte t (off + i)) (vAt_lt t off i) hi hr.1 hr.2
  have hb : sbyte t (off + i) = (byt t (off + i) : Int) := sbyte_byt t _
  have hv : vAt t off i + byt t (off + i) % 128 * 128 ^ i = vAt t off (i + 1) := rfl
  have hbt := byt_lt t (off + i)
  have hvl : vAt t off (i + 1) < 9223372036854775808 := by
    have h1 := vAt_lt t off (i + 1)
    have h2 : (128 : Nat) ^ (i + 1) ≤ 128 ^ 9 := Nat.pow_le_pow_right (by decide) (by omega)
    have h3 : (128 : Nat) ^ 9 = 9223372036854775808 := by decide
    omega
  rw [hb, Int.toNat_natCast, hv] at hd
  rw [roundP]
  have e1 : IntKind.i64.wrap ((i : Int) + 1) = ((i + 1 : Nat) : Int) := by rw [wrap64E]; omega
  have e2 : IntKind.i64.wrap ((vAt t off (i + 1) : Nat) : Int) = ((vAt t off (i + 1) : Nat) : Int) := by rw [wrap64E]; omega
  have e3 : IntKind.i64.wrap ((7 : Int) * (i : Int)) = ((7 * i : Nat) : Int) := by rw [wrap64E]; omega
  have c1 : decide ((i : Int) < (len : Int)) = true := decide_eq_true (by omega)
  have c2 : decide ((0 : Int) ≤ (i : Int)) = true := decide_eq_true (by omega)
  have c3 : decide ((0 : Int) ≤ ((7 * i : Nat) : Int)) = true := decide_eq_true (by omega)
  have c4 : decide ((0 : Int) ≤ ((i + 1 : Nat) : Int)) = true := decide_eq_true (by omega)
  have c5 : decide (((i + 1 : Nat) : Int) ≤ (len : Int)) = true := decide_eq_true (by omega)
  simp only [Int.toNat_natCast, hb]
  simp only [hd]
  simp only [e1, e2, e3, c1, c2, c3, c4, c5, Int.toNat_natCast]
  refine ⟨fun _ => ⟨rfl, rfl, ?_⟩, fun h => by simp at h⟩
  by_cases hc : byt t (off + i) < 128
  · rw [decide_eq_true (show ((byt t (off + i) : Nat) : Int) < 128 by omega)]
    by_cases hz : byt t (off + i) = 0 ∧ 0 < i
    · rw [decide_eq_true (show ((byt t (off + i) : Nat) : Int) = 0 by omega), decide_eq_true (show (0 : Int) < (i : Int) by omega)]
      exact ⟨fun _ => ⟨fun _ => ⟨fun _ => h1 (.inl ⟨hc, hz.1, hz.2⟩), fun h => by simp at h⟩, fun h => by simp at h⟩, fun h => by simp at h⟩
    · have g : (bif true then bif decide (((byt t (off + i) : Nat) : Int) = 0) then decide ((0 : Int) < (i : Int)) else false else false) = false := by
        by_cases h0 : byt t (off + i) = 0
        · rw [decide_eq_true (show ((byt t (off + i) : Nat) : Int) = 0 by omega), decide_eq_false (show ¬ (0 : Int) < (i : Int) by omega)]; rfl
        · rw [decide_eq_false (show ¬ ((byt t (off + i) : Nat) : Int) = 0 by omega)]; rfl
      rw [g]
      by_cases h8 : i = 8 ∧ 4611686018427387904 < vAt t off (i + 1)
      · rw [decide_eq_true (show (i : Int) = 8 by omega), decide_eq_true (show (4611686018427387904 : Int) < ((vAt t off (i + 1) : Nat) : Int) by omega)]
        exact ⟨fun h => by simp at h, fun _ => ⟨fun _ => ⟨fun _ => h1 (.inr ⟨h8.1, .inr h8.2⟩), fun h => by simp at h⟩, fun h => by simp at h⟩⟩
      · have g2 : (bif decide ((i : Int) = 8) then bif !true then true else decide ((4611686018427387904 : Int) < ((vAt t off (i + 1) : Nat) : Int)) else false) = false := by
          by_cases h0 : i = 8
          · rw [decide_eq_true (show (i : Int) = 8 by omega), decide_eq_false (show ¬ (4611686018427387904 : Int) < ((vAt t off (i + 1) : Nat) : Int) by omega)]; rfl
          · rw [decide_eq_false (show ¬ (i : Int) = 8 by omega)]; rfl
        rw [g2]
        refine ⟨fun h => by simp at h, fun _ => ⟨fun h => by simp at h, fun _ => ⟨fun _ => ⟨by simp, h2 hc (fun hp h0 => hz ⟨h0, hp⟩) (fun h0 => by omega)⟩, fun h => by simp at h⟩⟩⟩
  · rw [decide_eq_false (show ¬ ((byt t (off + i) : Nat) : Int) < 128 by omega)]
    by_cases h8 : i = 8
    · rw [decide_eq_true (show (i : Int) = 8 by omega)]
      exact ⟨fun h => by simp at h, fun _ => ⟨fun _ => ⟨fun _ => h1 (.inr ⟨h8, .inl (by omega)⟩), fun h => by simp at h⟩, fun h => by simp at h⟩⟩
    · rw [decide_eq_false (show ¬ (i : Int) = 8 by omega)]
      exact ⟨fun h => by simp at h, fun _ => ⟨fun h => by simp at h, fun _ => ⟨fun h => by simp at h, fun _ => h3 (by omega) (by omega)⟩⟩⟩
end Go.Eng.TA

namespace Go.Eng.TA
open Go Go.Eng Go.Eng.M Go.Eng.RD Go.Lib Go.Proofs
theorem loopPg_ok {off len N k : Nat} {t : ByteArray} (h : IsGood t off len k) (hlen : len ≤ 1000000000000) : ∀ i, i ≤ k → LoopOK Tryd.prog Γm 2 75 loopP (LSpec.at [0, 19, 20, 21, 3, 2] [] (SP off len N t i) (OPg off len N t k)) := by
  obtain ⟨h1, h2, h3, h4⟩ := h
  refine loop_at (S := SP off len N t) (pre := fun i => i ≤ k) (O := fun _ => OPg off len N t k) (k := 0) (fun i => k - i) fun i hi => ⟨[kFail], Lno, false, noLoops (by kernel_rfl), ?_⟩
  refine stepP (by omega) (by omega) hlen fun c hc => ?_
  subst hc
  refine ⟨fun hb => ?_, fun hl _ _ => ?_, fun hl h8 => ?_⟩
  · exfalso
    rcases Nat.lt_or_ge i k with hik | hik
    · have := h3.hi i hik; omega
    · obtain rfl : i = k := Nat.le_antisymm hi hik
      rcases hb with ⟨_, b2, b3⟩ | ⟨b1, b2⟩
      · exact h3.nz b3 b2
      · have := h3.lo; omega
  · rcases Nat.lt_or_ge i k with hik | hik
    · have := h3.hi i hik; omega
    · obtain rfl : i = k := Nat.le_antisymm hi hik
      exact ⟨rfl, ⟨.any _, .any _, .any _, .any _, .any _, .refl _, trivial⟩, LeH.refl _⟩
  · rcases Nat.lt_or_ge i k with hik | hik
    · exact ⟨i + 1, LeL.refl _, LeH.refl _, hik, rfl, by show k - (i + 1) < k - i; omega⟩
    · obtain rfl : i = k := Nat.le_antisymm hi hik
      have := h3.lo; omega
theorem loopPb_ok {off len N k : Nat} {t : ByteArray} (h : IsBad t off len k) (hlen : len ≤ 1000000000000) : ∀ i, i ≤ k → LoopOK Tryd.prog Γm 2 75 loopP (LSpec.at [0, 19, 20, 21, 3, 2] [] (SP off len N t i) (OPb N t)) := by
  obtain ⟨h1, h2, h3, h4⟩ := h
  refine loop_at (S := SP off len N t) (pre := fun i => i ≤ k) (O := fun _ => OPb N t) (k := 0) (fun i => k - i) fun i hi => ⟨[kFail], Lno, false, noLoops (by kernel_rfl), ?_⟩
  refine stepP (by omega) (by omega) hlen fun c hc => ?_
  subst hc
  refine ⟨fun hb => ?_, fun hl hz hv => ?_, fun hl h8 => ?_⟩
  · exact ⟨rfl, ⟨.any _, .any _, .any _, .any _, .any _, .refl _, trivial⟩, LeH.refl _⟩
  · exfalso
    rcases Nat.lt_or_ge i k with hik | hik
    · have := h3 i hik; omega
    · obtain rfl : i = k := Nat.le_antisymm hi hik
      rcases h4 with ⟨_, b2, b3⟩ | ⟨b1, b2⟩
      · exact hz b3 b2
      · have := hv b1; omega
  · rcases Nat.lt_or_ge i k with hik | hik
    · exact ⟨i + 1, LeL.refl _, LeH.refl _, hik, rfl, by show k - (i + 1) < k - i; omega⟩
    · obtain rfl : i = k := Nat.le_antisymm hi hik
      exfalso
      rcases h4 with ⟨b1, _, _⟩ | ⟨b1, b2⟩
      · omega
      · omega
theorem loopPc_ok {off len N : Nat} {t : ByteArray} (h : IsCut t off len) : ∀ i, i ≤ len → LoopOK Tryd.prog Γm 2 75 loopP (LSpec.at [0, 19, 20, 21, 3, 2] [] (SP off len N t i) (OPc off len N t)) := by
  obtain ⟨h1, h2⟩ := h
  refine loop_at (S := SP off len N t) (pre := fun i => i ≤ len) (O := fun _ => OPc off len N t) (k := 0) (fun i => len - i) fun i hi => ⟨[kFail], Lno, false, noLoops (by kernel_rfl), ?_⟩
  rcases Nat.lt_or_ge i len with hil | hil
  · refine stepP (by omega) hil (by omega) fun c hc => ?_
    subst hc
    have hb := h2 i hil
    refine ⟨fun hb' => ?_, fun hl _ _ => ?_, fun hl h8 => ?_⟩
    · exfalso; rcases hb' with ⟨b1, _, _⟩ | ⟨b1, _⟩ <;> omega
    · exfalso; omega
    · exact ⟨i + 1, LeL.refl _, LeH.refl _, hil, rfl, by show len - (i + 1) < len - i; omega⟩
  · obtain rfl : i = len := Nat.le_antisymm hi hil
    show (roundE (P := Tryd.prog) (Γ := Γm) [kFail] Lno false 2 0 loopP [0, 19, 20, 21, 3, 2] [] 75 [.ptr 0 0, .hs 1 off i, .v (.int .i64 (i : Int)), .v (.int .i64 (i : Int)), .v (.int .u64 (vAt t off i : Int)), .any] [some (.row [.hs 1 off i, .v (.int .i64 0)]), some (.arr 1 N (bsF t))]).sat _
    rw [roundP, decide_eq_false (show ¬ (i : Int) < (i : Int) by omega)]
    exact ⟨fun h => by simp at h, fun _ => ⟨rfl, ⟨.refl _, .any _, .any _, .any _, .any _, .any _, trivial⟩, LeH.refl _⟩⟩
theorem runPg (off len N k : Nat) (t : ByteArray) : bodyE (P := Tryd.prog) (Γ := Γm) [kFail] (fun _ => LSpec.at [0, 19, 20, 21, 3, 2] [] (SP off len N t 0) (OPg off len N t k)) false 75 [.tmp 2] (bodyOf Tryd.f95) [.ptr 0 0] (rdB off len N t) =
  Tree.br false (.leaf (Ans.mk (.v (.int .i64 (0 : Int))) [some (.row [.hs (1 : Nat) off len, .v (.int .i64 (0 : Int))]), some (.arr 1 N fun j => [.v (.int IntKind.u8 (sbyte t j))])])) (.chk 
    (cl (LeL [.ptr 0 0, .hs (1 : Nat) off len, .v (.int .i64 (↑len : Int)), .v (.int .i64 (0 : Int)), .v (.int IntKind.u64 (0 : Int)), .v (.int .i64 (0 : Int))] [.ptr 0 0, .hs (1 : 
    Nat) off len, .v (.int .i64 (↑len : Int)), .v (.int .i64 (↑(0 : Nat) : Int)), .v (.int IntKind.u64 (↑(0 : Nat) : Int)), .any] ∧ LeH [some (.row [.hs (1 : Nat) off len, .v (.int 
    .i64 (0 : Int))]), some (.arr 1 N fun j => [.v (.int IntKind.u8 (sbyte t j))])] [some (.row [.hs (1 : Nat) off len, .v (.int .i64 (0 : Int))]), some (.arr 1 N fun j => [.v (.int 
    IntKind.u8 (sbyte t j))])])) (.leaf (Ans.mk (.v (.int .i64 (↑(vAt t off (k + (1 : Nat))) : Int))) [some (.row [.hs (1 : Nat) (off + (k + (1 : Nat))) (len - (k + (1 : Nat))), .v 
    (.int .i64 (0 : Int))]), some (.arr 1 N fun j => [.v (.int IntKind.u8 (sbyte t j))])]))) := by kernel_rfl
theorem runPb (off len N : Nat) (t : ByteArray) : bodyE (P := Tryd.prog) (Γ := Γm) [kFail] (fun _ => LSpec.at [0, 19, 20, 21, 3, 2] [] (SP off len N t 0) (OPb N t)) false 75 [.tmp 2] (bodyOf Tryd.f95) [.ptr 0 0] (rdB off len N t) =
  Tree.br false (.leaf (Ans.mk (.v (.int .i64 (0 : Int))) [some (.row [.hs (1 : Nat) off len, .v (.int .i64 (0 : Int))]), some (.arr 1 N fun j => [.v (.int IntKind.u8 (sbyte t j))])])) (.chk 
    (cl (LeL [.ptr 0 0, .hs (1 : Nat) off len, .v (.int .i64 (↑len : Int)), .v (.int .i64 (0 : Int)), .v (.int IntKind.u64 (0 : Int)), .v (.int .i64 (0 : Int))] [.ptr 0 0, .hs (1 : 
    Nat) off len, .v (.int .i64 (↑len : Int)), .v (.int .i64 (↑(0 : Nat) : Int)), .v (.int IntKind.u64 (↑(0 : Nat) : Int)), .any] ∧ LeH [some (.row [.hs (1 : Nat) off len, .v (.int 
    .i64 (0 : Int))]), some (.arr 1 N fun j => [.v (.int IntKind.u8 (sbyte t j))])] [some (.row [.hs (1 : Nat) off len, .v (.int .i64 (0 : Int))]), some (.arr 1 N fun j => [.v (.int 
    IntKind.u8 (sbyte t j))])])) (.leaf (Ans.mk (.v (.int .i64 (0 : Int))) [some (.row [.v (.slice none (0 : Nat) (0 : Nat)), .v (.int .i64 (31 : Int))]), some (.arr 1 N fun j => [.v 
    (.int IntKind.u8 (sbyte t j))])]))) := by kernel_rfl
theorem runPc (off len N : Nat) (t : ByteArray) : bodyE (P := Tryd.prog) (Γ := Γm) [kFail] (fun _ => LSpec.at [0, 19, 20, 21, 3, 2] [] (SP off len N t 0) (OPc off len N t)) false 75 [.tmp 2] (bodyOf Tryd.f95) [.ptr 0 0] (rdB off len N t) =
  Tree.br false (.leaf (Ans.mk (.v (.int .i64 (0 : Int))) [some (.row [.hs (1 : Nat) off len, .v (.int .i64 (0 : Int))]), some (.arr 1 N fun j => [.v (.int IntKind.u8 (sbyte t j))])])) (.chk 
    (cl (LeL [.ptr 0 0, .hs (1 : Nat) off len, .v (.int .i64 (↑len : Int)), .v (.int .i64 (0 : Int)), .v (.int IntKind.u64 (0 : Int)), .v (.int .i64 (0 : Int))] [.ptr 0 0, .hs (1 : 
    Nat) off len, .v (.int .i64 (↑len : Int)), .v (.int .i64 (↑(0 : Nat) : Int)), .v (.int IntKind.u64 (↑(0 : Nat) : Int)), .any] ∧ LeH [some (.row [.hs (1 : Nat) off len, .v (.int 
    .i64 (0 : Int))]), some (.arr 1 N fun j => [.v (.int IntKind.u8 (sbyte t j))])] [some (.row [.hs (1 : Nat) off len, .v (.int .i64 (0 : Int))]), some (.arr 1 N fun j => [.v (.int 
    IntKind.u8 (sbyte t j))])])) (.br true (.leaf (Ans.mk (.v (.int .i64 (0 : Int))) [some (.row [.v (.slice none (0 : Nat) (0 : Nat)), .v (.int .i64 (30 : Int))]), some (.arr 1 N fun 
    j => [.v (.int IntKind.u8 (sbyte t j))])])) (.leaf (Ans.mk (.v (.int .i64 (0 : Int))) [some (.row [.hs (1 : Nat) off len, .v (.int .i64 (0 : Int))]), some (.arr 1 N fun j => [.v 
    (.int IntKind.u8 (sbyte t j))])])))) := by kernel_rfl
theorem ansReadG {off len N k : Nat} {t : ByteArray} (h : IsGood t off len k) (hlen : len ≤ 1000000000000) : Answers Tryd.prog Γm 95 [.ptr 0 0] (rdB off len N t) (.v (.int .i64 (vAt t off (k + 1) : Int))) ((rdB (off + (k + 1)) (len - (k + 1)) N t).map some) [] :=
  answers (fn := Tryd.f95) (c := bodyOf Tryd.f95) (ntmps := 75) (results := [.tmp 2]) [kFail] (fun _ => LSpec.at [0, 19, 20, 21, 3, 2] [] (SP off len N t 0) (OPg off len N t k)) false Tryd.func95 (by kernel_rfl) (by kernel_rfl) (by kernel_rfl) (by kernel_rfl) (by simp) rfl (oneLoop (b := loopP) (by kernel_rfl) (loopPg_ok h hlen 0 (Nat.zero_le _)))
    (Meets.of (runPg off len N k t) ⟨fun h => by simp at h, fun _ => ⟨cl_iff.2 ⟨⟨.refl _, .refl _, .refl _, .refl _, .refl _, .any _, trivial⟩, LeH.refl _⟩, .refl _, LeH.refl _⟩⟩)
theorem ansReadB {off len N k : Nat} {t : ByteArray} (h : IsBad t off len k) (hlen : len ≤ 1000000000000) : Answers Tryd.prog Γm 95 [.ptr 0 0] (rdB off len N t) (.v (.int .i64 0)) (badB 31 N t) [] :=
  answers (fn := Tryd.f95) (c := bodyOf Tryd.f95) (ntmps := 75) (results := [.tmp 2]) [kFail] (fun _ => LSpec.at [0, 19, 20, 21, 3, 2] [] (SP off len N t 0) (OPb N t)) false Tryd.func95 (by kernel_rfl) (by kernel_rfl) (by kernel_rfl) (by kernel_rfl) (by simp) rfl (oneLoop (b := loopP) (by kernel_rfl) (loopPb_ok h hlen 0 (Nat.zero_le _)))
    (Meets.of (runPb off len N t) ⟨fun h => by simp at h, fun _ => ⟨cl_iff.2 ⟨⟨.refl _, .refl _, .refl _, .refl _, .refl _, .any _, trivial⟩, LeH.refl _⟩, .refl _, LeH.refl _⟩⟩)
theorem ansReadC {off len N : Nat} {t : ByteArray} (h : IsCut t off len) : Answers Tryd.prog Γm 95 [.ptr 0 0] (rdB off len N t) (.v (.int .i64 0)) (badB 30 N t) [] :=
  answers (fn := Tryd.f95) (c := bodyOf Tryd.f95) (ntmps := 75) (results := [.tmp 2]) [kFail] (fun _ => LSpec.at [0, 19, 20, 21, 3, 2] [] (SP off len N t 0) (OPc off len N t)) false Tryd.func95 (by kernel_rfl) (by kernel_rfl) (by kernel_rfl) (by kernel_rfl) (by simp) rfl (oneLoop (b := loopP) (by kernel_rfl) (loopPc_ok h 0 (Nat.zero_le _)))
    (Meets.of (runPc off len N t) ⟨fun h => by simp at h, fun _ => ⟨cl_iff.2 ⟨⟨.refl _, .refl _, .refl _, .refl _, .refl _, .any _, trivial⟩, LeH.refl _⟩, fun _ => ⟨.refl _, LeH.refl _⟩, fun h => by simp at h⟩⟩)

def rdb (t : ByteArray) (off : Nat) (e : Int) : List Blk := [.row [.hs 1 off (t.size - off), .v (.int .i64 e)], .arr 1 t.size (bsF t)]
theorem runPe (t : ByteArray) (off : Nat) (e : Int) : bodyE (P := Tryd.prog) (Γ := Γm) [kFail] Lno false 75 [.tmp 2] (bodyOf Tryd.f95) [.ptr 0 0] (rdb t off e) =
  Tree.br (!decide (e = (0 : Int))) (.leaf (Ans.mk (.v (.int .i64 (0 : Int))) [some (.row [.hs (1 : Nat) off (ByteArray.size t - off), .v (.int .i64 e)]), some (.arr 1 (ByteArray.size t) fun 
    j => [.v (.int IntKind.u8 (sbyte t j))])])) .fail := by kernel_rfl
theorem rdb_end {t : ByteArray} {e : Int} : [some (Blk.row [.hs 1 t.size 0, .v (.int .i64 e)]), some (Blk.arr 1 t.size (bsF t))] = (rdb t t.size e).map some := by
  unfold rdb
  rw [Nat.sub_self]; rfl
theorem ansRn {t : ByteArray} {off : Nat} {e : Int} (hz : t.size ≤ 1000000000000) : Answers Tryd.prog Γm 95 [.ptr 0 0] (rdb t off e) (.v (.int .i64 (qN t off e))) ((rdb t (qO t off e) (qE t off e)).map some) [] := by
  by_cases he : e = 0
  · subst he
    rcases classify t off (t.size - off) with ⟨k, hk⟩ | hc | ⟨k, hk⟩
    · obtain ⟨h1, h2, h3⟩ := q_good hk
      rw [h1, h2, h3]
      have := ansReadG (N := t.size) hk (by omega)
      rw [Nat.sub_sub] at this
      exact this
    · obtain ⟨h1, h2, h3⟩ := q_cut hc
      rw [h1, h2, h3, ← rdb_end]
      exact Answers.boxOut (Hin := rdB off (t.size - off) t.size t) 0 0 0 1 0 0 off (t.size - off) rfl rfl rfl (by show 1 < 2; decide) rfl rfl rfl (ansReadC (N := t.size) hc)
    · obtain ⟨h1, h2, h3⟩ := q_no hk
      rw [h1, h2, h3, ← rdb_end]
      exact Answers.boxOut (Hin := rdB off (t.size - off) t.size t) 0 0 0 1 0 0 off (t.size - off) rfl rfl rfl (by show 1 < 2; decide) rfl rfl rfl (ansReadB (N := t.size) hk (by omega))
  · rw [qN_bad he, qO_bad he, qE_bad he]
    exact answers (fn := Tryd.f95) (c := bodyOf Tryd.f95) (ntmps := 75) (results := [.tmp 2]) [kFail] Lno false Tryd.func95 (by kernel_rfl) (by kernel_rfl) (by kernel_rfl) (by kernel_rfl) (by simp) rfl (fun _ _ _ => fail_ok)
      (Meets.of (runPe t off e) (by
        rw [decide_eq_false he]
        exact ⟨fun _ => ⟨.refl _, LeH.refl _⟩, fun h => by simp at h⟩))
def ofR : List AV → List Blk → Option (Nat × Int)
  | [.ptr 0 0], [.row [.hs 1 off _, .v (.int _ e)], .arr _ _ _] => some (off, e)
  | _, _ => none
def ofRI : List AV → List Blk → Option (Nat × Int × Int)
  | [.ptr 0 0, .v (.int _ n)], [.row [.hs 1 off _, .v (.int _ e)], .arr _ _ _] => some (off, e, n)
  | _, _ => none
noncomputable def kRn (t : ByteArray) (hz : t.size ≤ 1000000000000) : CT Tryd.prog Γm := CT.par 95 ofR (fun _ => True) (fun _ => [.ptr 0 0]) (fun | (off, e) => rdb t off e) (fun | (off, e) => .v (.int .i64 (qN t off e))) (fun | (off, e) => (rdb t (qO t off e) (qE t off e)).map some) (fun _ => [])
  (callFunc_enters Tryd.func95 (by kernel_rfl) (by kernel_rfl)) (fun | (off, e), _ => ansRn hz)
def fO (n off : Nat) (e x : Int) : Nat := if e = 0 ∧ ¬ x = 0 then n else off
def fE (e x : Int) : Int := if e = 0 ∧ ¬ x = 0 then x else e
theorem runFl (t : ByteArray) (off : Nat) (e x : Int) : bodyE (P := Tryd.prog) (Γ := Γm) [] Lno false 24 [] (bodyOf Tryd.f96) [.ptr 0 0, .v (.int .i64 x)] (rdb t off e) =
  Tree.br (bif decide (e = (0 : Int)) then !decide (x = (0 : Int)) else false) (.leaf (Ans.mk (.tup []) [some (.row [.v (.slice none (0 : Nat) (0 : Nat)), .v (.int .i64 x)]), some (.arr 1 
    (ByteArray.size t) fun j => [.v (.int IntKind.u8 (sbyte t j))])])) (.leaf (Ans.mk (.tup []) [some (.row [.hs (1 : Nat) off (ByteArray.size t - off), .v (.int .i64 e)]), some (.arr 
    1 (ByteArray.size t) fun j => [.v (.int IntKind.u8 (sbyte t j))])])) := by kernel_rfl
theorem ansFl {t : ByteArray} {off : Nat} {e x : Int} : Answers Tryd.prog Γm 96 [.ptr 0 0, .v (.int .i64 x)] (rdb t off e) (.tup []) ((rdb t (fO t.size off e x) (fE e x)).map some) [] := by
  by_cases h : e = 0 ∧ ¬ x = 0
  · have e1 : fO t.size off e x = t.size := if_pos h
    have e2 : fE e x = x := if_pos h
    rw [e1, e2, ← rdb_end]
    refine Answers.boxOut (Hin := rdb t off e) 0 0 0 1 0 0 off (t.size - off) rfl rfl rfl (by show 1 < 2; decide) rfl rfl rfl (v := .tup []) (H1 := badB x t.size t) (new := []) ?_
    refine answers (fn := Tryd.f96) (c := bodyOf Tryd.f96) (ntmps := 24) (results := []) [] (Lno) false Tryd.func96 (by kernel_rfl) (by kernel_rfl) (by kernel_rfl) (by kernel_rfl) (by simp) rfl (failOK fun _ _ _ => rfl) <| Meets.of (runFl t off e x) <| ?_
    rw [decide_eq_true h.1, decide_eq_false h.2]
    exact ⟨fun _ => ⟨.refl _, LeH.refl _⟩, fun h => by simp at h⟩
  · have e1 : fO t.size off e x = off := if_neg h
    have e2 : fE e x = e := if_neg h
    rw [e1, e2]
    refine answers (fn := Tryd.f96) (c := bodyOf Tryd.f96) (ntmps := 24) (results := []) [] (Lno) false Tryd.func96 (by kernel_rfl) (by kernel_rfl) (by kernel_rfl) (by kernel_rfl) (by simp) rfl (failOK fun _ _ _ => rfl) <| Meets.of (runFl t off e x) <| ?_
    have hc : (bif decide (e = (0 : Int)) then !decide (x = (0 : Int)) else false) = false := by
      by_cases h1 : e = 0
      · have h2 : x = 0 := by
          by_cases h2 : x = 0
          · exact h2
          · exact absurd ⟨h1, h2⟩ h
        rw [decide_eq_true h1, decide_eq_true h2]; rfl
      · rw [decide_eq_false h1]; rfl
    rw [hc]
    exact ⟨fun h => by simp at h, fun _ => ⟨.refl _, LeH.refl _⟩⟩
noncomputable def kFl (t : ByteArray) : CT Tryd.prog Γm := CT.par 96 ofRI (fun _ => True) (fun | (off, e, x) => [.ptr 0 0, .v (.int .i64 x)]) (fun | (off, e, x) => rdb t off e) (fun _ => .tup []) (fun | (off, e, x) => (rdb t (fO t.size off e x) (fE e x)).map some) (fun _ => [])
  (callFunc_enters Tryd.func96 (by kernel_rfl) (by kernel_rfl)) (fun | (off, e, x), _ => ansFl)
theorem runRs (t : ByteArray) (off : Nat) (e : Int) : bodyE (P := Tryd.prog) (Γ := Γm) [] Lno false 10 [.tmp 2] (bodyOf Tryd.f43) [.ptr 0 0] (rdb t off e) =
  Tree.leaf (Ans.mk (.v (.int .i64 (↑(ByteArray.size t - off) : Int))) [some (.row [.hs (1 : Nat) off (ByteArray.size t - off), .v (.int .i64 e)]), some (.arr 1 (ByteArray.size t) fun j => [.v 
    (.int IntKind.u8 (sbyte t j))])]) := by kernel_rfl
theorem ansRs {t : ByteArray} {off : Nat} {e : Int} : Answers Tryd.prog Γm 43 [.ptr 0 0] (rdb t off e) (.v (.int .i64 ((t.size - off : Nat) : Int))) ((rdb t off e).map some) [] := by
  refine answers (fn := Tryd.f43) (c := bodyOf Tryd.f43) (ntmps := 10) (results := [.tmp 2]) [] (Lno) false Tryd.func43 (by kernel_rfl) (by kernel_rfl) (by kernel_rfl) (by kernel_rfl) (by simp) rfl (failOK fun _ _ _ => rfl) <| Meets.of (runRs t off e) <| ?_
  repeat' (first | refine wC (by first | omega | (simp only [W1, cond_true, cond_false]; first | done | omega)) ?_ | refine wT (by first | omega | (simp only [W1, cond_true, cond_false]; first | done | omega)) ?_ | refine wF (by intro _h; first | omega | (simp only [W1, cond_true, cond_false] at _h; first | done | omega)) ?_ | (refine wS ?_ ?_ <;> intro _h <;> simp only [W1, cond_true, cond_false] at _h))
  all_goals simp only [W1, W2, owesN, owesX, owesR, cond_true, cond_false]
  repeat' (first | apply And.intro | intro _hc)
  all_goals first | exact AV.le_refl _ | exact AV.le_any _ | exact OLe.refl _ | exact OLe.none _ | exact LeH.refl _ | exact LeL.refl _ | exact AV.le.bs _ | exact AV.le.sb _ | omega | contradiction
noncomputable def kRs (t : ByteArray) : CT Tryd.prog Γm := CT.par 43 ofR (fun _ => True) (fun _ => [.ptr 0 0]) (fun | (off, e) => rdb t off e) (fun | (off, e) => .v (.int .i64 ((t.size - off : Nat) : Int))) (fun | (off, e) => (rdb t off e).map some) (fun _ => [])
  (callFunc_enters Tryd.func43 (by kernel_rfl) (by kernel_rfl)) (fun | (off, e), _ => ansRs)
def dE (t : ByteArray) (off : Nat) (e : Int) : Int := if e = 0 ∧ off < t.size then 32 else e
theorem runDn (t : ByteArray) (off : Nat) (e : Int) : bodyE (P := Tryd.prog) (Γ := Γm) [] Lno false 24 [.tmp 2] (bodyOf Tryd.f41) [.ptr 0 0] (rdb t off e) =
  Tree.br (bif decide (e = (0 : Int)) then decide ((0 : Int) < (↑(ByteArray.size t - off) : Int)) else false) (.leaf (Ans.mk (.v (.int .i64 (32 : Int))) [some (.row [.hs (1 : Nat) off 
    (ByteArray.size t - off), .v (.int .i64 e)]), some (.arr 1 (ByteArray.size t) fun j => [.v (.int IntKind.u8 (sbyte t j))])])) (.leaf (Ans.mk (.v (.int .i64 e)) [some (.row [.hs (1 
    : Nat) off (ByteArray.size t - off), .v (.int .i64 e)]), some (.arr 1 (ByteArray.size t) fun j => [.v (.int IntKind.u8 (sbyte t j))])])) := by kernel_rfl
theorem ansDn {t : ByteArray} {off : Nat} {e : Int} : Answers Tryd.prog Γm 41 [.ptr 0 0] (rdb t off e) (.v (.int .i64 (dE t off e))) ((rdb t off e).map some) [] := by
  refine answers (fn := Tryd.f41) (c := bodyOf Tryd.f41) (ntmps := 24) (results := [.tmp 2]) [] (Lno) false Tryd.func41 (by kernel_rfl) (by kernel_rfl) (by kernel_rfl) (by kernel_rfl) (by simp) rfl (failOK fun _ _ _ => rfl) <| Meets.of (runDn t off e) <| ?_
  by_cases h : e = 0 ∧ off < t.size
  · have e1 : dE t off e = 32 := if_pos h
    obtain ⟨h1, h2⟩ := h
    rw [e1]
    repeat' (first | refine wC (by first | omega | (simp only [W1, cond_true, cond_false, h1]; first | done | omega)) ?_ | refine wT (by first | omega | (simp only [W1, cond_true, cond_false, h1]; first | done | omega)) ?_ | refine wF (by intro _h; first | omega | (simp only [W1, cond_true, cond_false, h1] at _h; first | done | omega)) ?_ | (refine wS ?_ ?_ <;> intro _h <;> simp only [W1, cond_true, cond_false, h1] at _h))
    all_goals simp only [W1, W2, owesN, owesX, owesR, cond_true, cond_false, h1]
    repeat' (first | apply And.intro | intro _hc)
    all_goals first | exact AV.le_refl _ | exact AV.le_any _ | exact OLe.refl _ | exact OLe.none _ | exact LeH.refl _ | exact LeL.refl _ | exact AV.le.bs _ | exact AV.le.sb _ | omega | contradiction
  · have e1 : dE t off e = e := if_neg h
    rw [e1]
    repeat' (first | refine wC (by first | omega | (simp only [W1, cond_true, cond_false]; first | done | omega)) ?_ | refine wT (by first | omega | (simp only [W1, cond_true, cond_false]; first | done | omega)) ?_ | refine wF (by intro _h; first | omega | (simp only [W1, cond_true, cond_false] at _h; first | done | omega)) ?_ | (refine wS ?_ ?_ <;> intro _h <;> simp only [W1, cond_true, cond_false] at _h))
    all_goals simp only [W1, W2, owesN, owesX, owesR, cond_true, cond_false]
    repeat' (first | apply And.intro | intro _hc)
    all_goals first | exact AV.le_refl _ | exact AV.le_any _ | exact OLe.refl _ | exact OLe.none _ | exact LeH.refl _ | exact LeL.refl _ | exact AV.le.bs _ | exact AV.le.sb _ | omega | contradiction
noncomputable def kDn (t : ByteArray) : CT Tryd.prog Γm := CT.par 41 ofR (fun _ => True) (fun _ => [.ptr 0 0]) (fun | (off, e) => rdb t off e) (fun | (off, e) => .v (.int .i64 (dE t off e))) (fun | (off, e) => (rdb t off e).map some) (fun _ => [])
  (callFunc_enters Tryd.func41 (by kernel_rfl) (by kernel_rfl)) (fun | (off, e), _ => ansDn)
end Go.Eng.TA

namespace Go.Eng.TA
open Go Go.Eng Go.Eng.M Go.Lib Go.Proofs
inductive BA where
  | nil
  | sl (t : ByteArray)
  | hs (t : ByteArray)
def BA.t : BA → ByteArray
  | .nil => ⟨#[]⟩
  | .sl t => t
  | .hs t => t
def BA.av : BA → AV
  | .nil => .v (.slice none 0 0)
  | .sl t => .sl 1 t.size (bsF t)
  | .hs t => .hs 0 0 t.size
def BA.bl : BA → List Blk
  | .hs t => [.arr 1 t.size (bsF t)]
  | _ => []
def BA.n : BA → Nat
  | .hs _ => 1
  | _ => 0
def small (t : ByteArray) : Prop := t.size ≤ 1000000000
theorem runCn  : bodyE (P := Tryd.prog) (Γ := Γm) [] Lno false 8 [.tmp 2] (bodyOf Tryd.f94) [.v (.slice none 0 0)] [] =
  Tree.leaf (Ans.mk (.v (.slice none (0 : Nat) (0 : Nat))) []) := by kernel_rfl
theorem runCs (t : ByteArray) : bodyE (P := Tryd.prog) (Γ := Γm) [] Lno false 8 [.tmp 2] (bodyOf Tryd.f94) [.sl 1 t.size (bsF t)] [] =
  Tree.chk (Nat.blt (0 : Nat) (ByteArray.size t) || mkd [.v (.int IntKind.u8 (sbyte t (ByteArray.size t)))]) (.chk (roomOk (1 : Nat) ((0 : Nat) + ByteArray.size t)) (.leaf (Ans.mk (.hs 0 0 
    ((0 : Nat) + ByteArray.size t)) [some (.arr 1 ((0 : Nat) + ByteArray.size t) fun j => mixL (decide (j < (0 : Nat))) (chain [.v (.int IntKind.u8 (0 : Int))] (0 : Nat) [] ((0 : Nat) 
    + j)) [.v (.int IntKind.u8 (sbyte t j))])]))) := by kernel_rfl
theorem runCh (t : ByteArray) : bodyE (P := Tryd.prog) (Γ := Γm) [] Lno false 8 [.tmp 2] (bodyOf Tryd.f94) [.hs 0 0 t.size] [.arr 1 t.size (bsF t)] =
  Tree.chk (Nat.blt (0 : Nat) (ByteArray.size t) || Nat.blt (0 : Nat) (ByteArray.size t)) (.chk (roomOk (1 : Nat) ((0 : Nat) + ByteArray.size t)) (.leaf (Ans.mk (.hs 1 0 ((0 : Nat) + 
    ByteArray.size t)) [some (.arr 1 (ByteArray.size t) fun j => [.v (.int IntKind.u8 (sbyte t j))]), some (.arr 1 ((0 : Nat) + ByteArray.size t) fun j => mixL (decide (j < (0 : Nat))) 
    (chain [.v (.int IntKind.u8 (0 : Int))] (0 : Nat) [] ((0 : Nat) + j)) [.v (.int IntKind.u8 (sbyte t ((0 : Nat) + j)))])]))) := by kernel_rfl
def BA.ok : BA → Prop
  | .nil => True
  | .sl t => small t ∧ 0 < t.size
  | .hs t => small t ∧ 0 < t.size
theorem room {n : Nat} (h : n ≤ 2000000000) : roomOk 1 (0 + n) = true := by
  unfold roomOk
  exact decide_eq_true (by omega)
theorem room' {n : Nat} (h : n ≤ 2000000000) : roomOk 1 n = true := by
  unfold roomOk
  exact decide_eq_true (by omega)
theorem cut0 (t : ByteArray) (j : Nat) : (bif decide (j < (0 : Nat)) then (0 : Int) else sbyte t (j - (0 : Nat))) = sbyte t j := by
  rw [decide_eq_false (Nat.not_lt_zero _)]; rfl
theorem cut1 (t : ByteArray) (j : Nat) : (bif decide (j < (0 : Nat)) then (0 : Int) else sbyte t ((0 : Nat) + (j - (0 : Nat)))) = sbyte t j := by
  rw [decide_eq_false (Nat.not_lt_zero _), Nat.zero_add]; rfl
def cloneV : BA → AV
  | .nil => nilSlice
  | .sl t => .hs 0 0 t.size
  | .hs t => .hs 1 0 t.size
def cloneN : BA → List Blk
  | .nil => []
  | .sl t => [.arr 1 t.size (bsF t)]
  | .hs t => [.arr 1 t.size (bsF t)]
theorem cutU (t : ByteArray) : (fun j => mixL (decide (j < 0)) (chain [AV.v (Value.int IntKind.u8 0)] 0 [] j) [AV.v (Value.int IntKind.u8 (sbyte t j))]) = bsF t := by
  funext j
  show mixL _ [AV.v (Value.int IntKind.u8 0)] _ = _
  rw [mixU, decide_eq_false (Nat.not_lt_zero j)]
  rfl
theorem cutO (t : ByteArray) : OLe (some (.arr 1 t.size fun j => mixL (decide (j < 0)) (chain [AV.v (Value.int IntKind.u8 0)] 0 [] j) [AV.v (Value.int IntKind.u8 (sbyte t j))])) (some (.arr 1 t.size (bsF t))) := by
  rw [cutU]; exact OLe.refl _
theorem ansClone (x : BA) (hp : x.ok) : Answers Tryd.prog Γm 94 [x.av] x.bl (cloneV x) (x.bl.map some) (cloneN x) := by
  cases x with
  | nil =>
    refine answers (fn := Tryd.f94) (c := bodyOf Tryd.f94) (ntmps := 8) (results := [.tmp 2]) [] (Lno) false Tryd.func94 (by kernel_rfl) (by kernel_rfl) (by kernel_rfl) (by kernel_rfl) (by simp) rfl (failOK fun _ _ _ => rfl) <| Meets.of (runCn) <| ?_
    repeat' (first | refine wC (by first | omega | (simp only [W1, cond_true, cond_false]; first | done | omega)) ?_ | refine wT (by first | omega | (simp only [W1, cond_true, cond_false]; first | done | omega)) ?_ | refine wF (by intro _h; first | omega | (simp only [W1, cond_true, cond_false] at _h; first | done | omega)) ?_ | (refine wS ?_ ?_ <;> intro _h <;> simp only [W1, cond_true, cond_false] at _h))
    all_goals simp only [W1, W2, owesN, owesX, owesR, cond_true, cond_false]
    repeat' (first | apply And.intro | intro _hc)
    all_goals first | exact AV.le_refl _ | exact AV.le_any _ | exact OLe.refl _ | exact OLe.none _ | exact LeH.refl _ | exact LeL.refl _ | exact AV.le.bs _ | exact AV.le.sb _ | omega | contradiction
  | sl t =>
    refine answers (fn := Tryd.f94) (c := bodyOf Tryd.f94) (ntmps := 8) (results := [.tmp 2]) [] (Lno) false Tryd.func94 (by kernel_rfl) (by kernel_rfl) (by kernel_rfl) (by kernel_rfl) (by simp) rfl (failOK fun _ _ _ => rfl) <| Meets.of (runCs t) <| ?_
    have h1 : Nat.blt 0 t.size = true := by rw [Nat.blt_eq]; exact hp.2
    have h2 : t.size ≤ 1000000000 := hp.1
    have hO := cutO t
    simp only [Nat.zero_add, h1, Bool.true_or]
    repeat' (first | refine wC (by first | omega | (simp only [W1, cond_true, cond_false]; first | done | omega)) ?_ | refine wT (by first | omega | (simp only [W1, cond_true, cond_false]; first | done | omega)) ?_ | refine wF (by intro _h; first | omega | (simp only [W1, cond_true, cond_false] at _h; first | done | omega)) ?_ | (refine wS ?_ ?_ <;> intro _h <;> simp only [W1, cond_true, cond_false] at _h))
    all_goals simp only [W1, W2, owesN, owesX, owesR, cond_true, cond_false]
    repeat' (first | apply And.intro | intro _hc)
    all_goals first | exact room' (by omega) | exact hO | exact ⟨hO, trivial⟩ | exact AV.le_refl _ | exact AV.le_any _ | exact OLe.refl _ | exact OLe.none _ | exact LeH.refl _ | exact LeL.refl _ | exact AV.le.bs _ | exact AV.le.sb _ | omega | contradiction
  | hs t =>
    refine answers (fn := Tryd.f94) (c := bodyOf Tryd.f94) (ntmps := 8) (results := [.tmp 2]) [] (Lno) false Tryd.func94 (by kernel_rfl) (by kernel_rfl) (by kernel_rfl) (by kernel_rfl) (by simp) rfl (failOK fun _ _ _ => rfl) <| Meets.of (runCh t) <| ?_
    have h1 : Nat.blt 0 t.size = true := by rw [Nat.blt_eq]; exact hp.2
    have h2 : t.size ≤ 1000000000 := hp.1
    have hO := cutO t
    simp only [Nat.zero_add, h1, Bool.true_or]
    repeat' (first | refine wC (by first | omega | (simp only [W1, cond_true, cond_false]; first | done | omega)) ?_ | refine wT (by first | omega | (simp only [W1, cond_true, cond_false]; first | done | omega)) ?_ | refine wF (by intro _h; first | omega | (simp only [W1, cond_true, cond_false] at _h; first | done | omega)) ?_ | (refine wS ?_ ?_ <;> intro _h <;> simp only [W1, cond_true, cond_false] at _h))
    all_goals simp only [W1, W2, owesN, owesX, owesR, cond_true, cond_false]
    repeat' (first | apply And.intro | intro _hc)
    all_goals first | exact room' (by omega) | exact hO | exact ⟨OLe.refl _, hO, trivial⟩ | exact AV.le_refl _ | exact AV.le_any _ | exact OLe.refl _ | exact OLe.none _ | exact LeH.refl _ | exact LeL.refl _ | exact AV.le.bs _ | exact AV.le.sb _ | omega | contradiction
noncomputable def loopN : Code := loopOf (bodyOf Tryd.f83) 0
theorem roundN0 (n : Nat) (t : ByteArray) : roundE (P := Tryd.prog) (Γ := Γm) [] Lno false 0 0 loopN [1, 6] [(1, 5)] 30 [.v (.int .i64 (n : Int)), .hs 0 0 t.size] [some (.arr 1 t.size (bsF t))] =
  Tree.br (decide ((128 : Int) ≤ (↑n : Int))) (.chk (roomOk (1 : Nat) (ByteArray.size t + (1 : Nat))) (.chk true (.leaf (.mk .normal [.v (.int .i64 (Int.fdiv (↑n : Int) ((2 : Int) ^ min 
    (Int.toNat (7 : Int)) (64 : Nat)))), .hs 0 0 (ByteArray.size t + (1 : Nat))] [some (.arr 1 (ByteArray.size t + (1 : Nat)) fun j => mixL (decide (j < ByteArray.size t)) [.v (.int 
    IntKind.u8 (sbyte t ((0 : Nat) + j)))] (chain [.v (.int IntKind.u8 (0 : Int))] (0 : Nat) [[.v (.int IntKind.u8 (bitI BinOp.or IntKind.u8 (IntKind.wrap IntKind.u8 (↑n : Int)) (128 : 
    Int)))]] ((0 : Nat) + (j - ByteArray.size t))))])))) (.leaf (.mk (.exit 0) [.v (.int .i64 (↑n : Int)), .hs 0 0 (ByteArray.size t)] [some (.arr 1 (ByteArray.size t) fun j => [.v 
    (.int IntKind.u8 (sbyte t j))])])) := by kernel_rfl
theorem roundN1 (n : Nat) (t b : ByteArray) : roundE (P := Tryd.prog) (Γ := Γm) [] Lno false 1 0 loopN [1, 6] [(1, 5)] 30 [.v (.int .i64 (n : Int)), .hs 1 0 t.size] [some (.arr 1 b.size (bsF b)), some (.arr 1 t.size (bsF t))] =
  Tree.br (decide ((128 : Int) ≤ (↑n : Int))) (.chk (roomOk (1 : Nat) (ByteArray.size t + (1 : Nat))) (.chk true (.leaf (.mk .normal [.v (.int .i64 (Int.fdiv (↑n : Int) ((2 : Int) ^ min 
    (Int.toNat (7 : Int)) (64 : Nat)))), .hs 1 0 (ByteArray.size t + (1 : Nat))] [some (.arr 1 (ByteArray.size b) fun j => [.v (.int IntKind.u8 (sbyte b j))]), some (.arr 1 
    (ByteArray.size t + (1 : Nat)) fun j => mixL (decide (j < ByteArray.size t)) [.v (.int IntKind.u8 (sbyte t ((0 : Nat) + j)))] (chain [.v (.int IntKind.u8 (0 : Int))] (0 : Nat) [[.v 
    (.int IntKind.u8 (bitI BinOp.or IntKind.u8 (IntKind.wrap IntKind.u8 (↑n : Int)) (128 : Int)))]] ((0 : Nat) + (j - ByteArray.size t))))])))) (.leaf (.mk (.exit 0) [.v (.int .i64 (↑n 
    : Int)), .hs 1 0 (ByteArray.size t)] [some (.arr 1 (ByteArray.size b) fun j => [.v (.int IntKind.u8 (sbyte b j))]), some (.arr 1 (ByteArray.size t) fun j => [.v (.int IntKind.u8 
    (sbyte t j))])])) := by kernel_rfl
def SN (a : BA) (n : Nat) (t : ByteArray) : List AV × Heap := ([.v (.int .i64 (n : Int)), .hs a.n 0 t.size], a.bl.map some ++ [some (.arr 1 t.size (bsF t))])
def preN (x : Nat × ByteArray) : Prop := x.1 ≤ 4611686018427387904 ∧ x.2.size + (hiB x.1).size ≤ 1000000100
def ON (a : BA) (n : Nat) (t : ByteArray) : Out := ⟨.exit 0, [.v (.int .i64 (loN n : Int)), .hs a.n 0 (t ++ hiB n).size], a.bl.map some ++ [some (.arr 1 (t ++ hiB n).size (bsF (t ++ hiB n)))]⟩
theorem stepN {n : Nat} {t : ByteArray} (hp : preN (n, t)) (h : 128 ≤ n) : ((n : Int).fdiv ((2 : Int) ^ min (Int.toNat (7 : Int)) (64 : Nat))) = ((n / 128 : Nat) : Int) ∧ (t ++ oneB (n % 128 + 128)).size = t.size + 1 ∧ t.size + 1 ≤ 1000000100 ∧
    preN (n / 128, t ++ oneB (n % 128 + 128)) ∧ (t ++ oneB (n % 128 + 128)) ++ hiB (n / 128) = t ++ hiB n ∧
    ∀ j, j < t.size + 1 → (bif decide (j < t.size) then sbyte t ((0 : Nat) + j) else bif ((0 : Nat) + (j - t.size)).beq (0 : Nat) then bitI BinOp.or IntKind.u8 (IntKind.u8.wrap (n : Int)) (128 : Int) else (0 : Int)) = sbyte (t ++ oneB (n % 128 + 128)) j := by
  have hge : ¬ n < 128 := by omega
  have e1 := hiB_ge hge
  have hp1 := hp.1
  have hp2 := hp.2
  simp only [e1, ByteArray.size_append, oneB_size] at hp2
  refine ⟨?_, by simp, by omega, ⟨?_, ?_⟩, ?_, fun j hj => ?_⟩
  · show (n : Int).fdiv 128 = _
    rw [Int.fdiv_eq_ediv_of_nonneg _ (by decide)]
    omega
  · show n / 128 ≤ _
    have : n / 128 ≤ n := Nat.div_le_self _ _
    simp only at hp1
    omega
  · simp only [ByteArray.size_append, oneB_size]; omega
  · rw [e1, ByteArray.append_assoc]
  · have hv : bitI BinOp.or IntKind.u8 (IntKind.u8.wrap (n : Int)) (128 : Int) = ((n % 128 + 128 : Nat) : Int) := by
      rw [wrapU8, or128 _ (by omega) (by omega)]
      omega
    rw [hv, push_eq (by omega) (by omega) hj, Int.toNat_natCast]
theorem loopN_ok (a : BA) : ∀ x : Nat × ByteArray, preN x → LoopOK Tryd.prog Γm a.bl.length 30 loopN (LSpec.at [1, 6] [(1, 5)] (SN a x.1 x.2) (ON a x.1 x.2)) := by
  refine loop_at (S := fun x : Nat × ByteArray => SN a x.1 x.2) (O := fun x => ON a x.1 x.2) (k := 0) (fun x => x.1) fun x hp => ⟨[], Lno, false, noLoops (by kernel_rfl), ?_⟩
  obtain ⟨n, t⟩ := x
  have fin : ¬ 128 ≤ n → hiB n = ⟨#[]⟩ ∧ loN n = n := fun h => ⟨hiB_lt (by omega), loN_lt (by omega)⟩
  have hd : (128 : Int) ≤ (n : Int) ↔ 128 ≤ n := by omega
  cases a with
  | hs b =>
    show (roundE (P := Tryd.prog) (Γ := Γm) [] Lno false 1 0 loopN [1, 6] [(1, 5)] 30 [.v (.int .i64 (n : Int)), .hs 1 0 t.size] [some (.arr 1 b.size (bsF b)), some (.arr 1 t.size (bsF t))]).sat _
    rw [roundN1]
    refine ⟨fun hc => ?_, fun hc => ?_⟩
    · have h := hd.1 (of_decide_eq_true hc)
      obtain ⟨s1, s2, s3, s4, s5, s6⟩ := stepN hp h
      refine ⟨room' (by omega), rfl, (n / 128, t ++ oneB (n % 128 + 128)), ?_, ?_, s4, ?_, ?_⟩
      · rw [s1]; exact ⟨.refl _, .of_eq (by rw [s2]; rfl), trivial⟩
      · exact ⟨.refl _, .arr s2.symm (fun j hj => by show mixL _ _ (mixL _ _ [AV.v (Value.int IntKind.u8 0)]) = _; rw [mixU, mixU, s6 j hj]; rfl) (fun _ => rfl), trivial⟩
      · simp only [ON]; rw [show loN (n / 128) = loN n from (loN_ge (by omega)).symm, s5]
      · show n / 128 < n; omega
    · have h := mt hd.2 (of_decide_eq_false hc)
      obtain ⟨f1, f2⟩ := fin h
      refine ⟨rfl, ?_, ?_⟩
      · simp only [ON, f1, f2, append_empty]; exact LeL.refl _
      · simp only [ON, f1, append_empty]; exact LeH.refl _
  | nil =>
    show (roundE (P := Tryd.prog) (Γ := Γm) [] Lno false 0 0 loopN [1, 6] [(1, 5)] 30 [.v (.int .i64 (n : Int)), .hs 0 0 t.size] [some (.arr 1 t.size (bsF t))]).sat _
    rw [roundN0]
    refine ⟨fun hc => ?_, fun hc => ?_⟩
    · have h := hd.1 (of_decide_eq_true hc)
      obtain ⟨s1, s2, s3, s4, s5, s6⟩ := stepN hp h
      refine ⟨room' (by omega), rfl, (n / 128, t ++ oneB (n % 128 + 128)), ?_, ?_, s4, ?_, ?_⟩
      · rw [s1]; exact ⟨.refl _, .of_eq (by rw [s2]; rfl), trivial⟩
      · exact ⟨.arr s2.symm (fun j hj => by show mixL _ _ (mixL _ _ [AV.v (Value.int IntKind.u8 0)]) = _; rw [mixU, mixU, s6 j hj]; rfl) (fun _ => rfl), trivial⟩
      · simp only [ON]; rw [show loN (n / 128) = loN n from (loN_ge (by omega)).symm, s5]
      · show n / 128 < n; omega
    · have h := mt hd.2 (of_decide_eq_false hc)
      obtain ⟨f1, f2⟩ := fin h
      refine ⟨rfl, ?_, ?_⟩
      · simp only [ON, f1, f2, append_empty]; exact LeL.refl _
      · simp only [ON, f1, append_empty]; exact LeH.refl _
  | sl b =>
    show (roundE (P := Tryd.prog) (Γ := Γm) [] Lno false 0 0 loopN [1, 6] [(1, 5)] 30 [.v (.int .i64 (n : Int)), .hs 0 0 t.size] [some (.arr 1 t.size (bsF t))]).sat _
    rw [roundN0]
    refine ⟨fun hc => ?_, fun hc => ?_⟩
    · have h := hd.1 (of_decide_eq_true hc)
      obtain ⟨s1, s2, s3, s4, s5, s6⟩ := stepN hp h
      refine ⟨room' (by omega), rfl, (n / 128, t ++ oneB (n % 128 + 128)), ?_, ?_, s4, ?_, ?_⟩
      · rw [s1]; exact ⟨.refl _, .of_eq (by rw [s2]; rfl), trivial⟩
      · exact ⟨.arr s2.symm (fun j hj => by show mixL _ _ (mixL _ _ [AV.v (Value.int IntKind.u8 0)]) = _; rw [mixU, mixU, s6 j hj]; rfl) (fun _ => rfl), trivial⟩
      · simp only [ON]; rw [show loN (n / 128) = loN n from (loN_ge (by omega)).symm, s5]
      · show n / 128 < n; omega
    · have h := mt hd.2 (of_decide_eq_false hc)
      obtain ⟨f1, f2⟩ := fin h
      refine ⟨rfl, ?_, ?_⟩
      · simp only [ON, f1, f2, append_empty]; exact LeL.refl _
      · simp only [ON, f1, append_empty]; exact LeH.refl _
noncomputable def LN (a : BA) (n : Nat) (t : ByteArray) : Nat → LSpec := fun _ => LSpec.at [1, 6] [(1, 5)] (SN a n t) (ON a n t)
theorem runNn (n : Nat) (h : BA.nil.ok) : bodyE (P := Tryd.prog) (Γ := Γm) [CT.at 94 (ansClone .nil h)] (LN .nil n ⟨#[]⟩) false 30 [.tmp 4, .tmp 5] (bodyOf Tryd.f83) [.v (.slice none 0 0), .v (.int .i64 (n : Int))] [] =
  Tree.br (bif decide ((↑n : Int) < (0 : Int)) then true else decide ((4611686018427387904 : Int) < (↑n : Int))) (.leaf (Ans.mk (.tup [.v (.slice none (0 : Nat) (0 : Nat)), .v (.int .i64 (10 
    : Int))]) [])) (.chk (cl (LeL [.v (.slice none (0 : Nat) (0 : Nat))] [.v (.slice none (0 : Nat) (0 : Nat))] ∧ LeH [] [])) (.chk (cl (LeL [.v (.int .i64 (↑n : Int)), .hs 0 0 (0 : 
    Nat)] [.v (.int .i64 (↑n : Int)), .hs 0 0 (0 : Nat)] ∧ LeH [some (.arr 1 (0 : Nat) fun x => [.v (.int IntKind.u8 (0 : Int))])] [some (.arr 1 (0 : Nat) fun j => [.v (.int IntKind.u8 
    (sbyte (ByteArray.mk #[]) j))])])) (.chk (roomOk (1 : Nat) (ByteArray.size (ByteArray.mk #[] ++ hiB n) + (1 : Nat))) (.leaf (Ans.mk (.tup [.hs 0 0 (ByteArray.size (ByteArray.mk #[] 
    ++ hiB n) + (1 : Nat)), .v (.int .i64 (0 : Int))]) [some (.arr 1 (ByteArray.size (ByteArray.mk #[] ++ hiB n) + (1 : Nat)) fun j => mixL (decide (j < ByteArray.size (ByteArray.mk 
    #[] ++ hiB n))) [.v (.int IntKind.u8 (sbyte (ByteArray.mk #[] ++ hiB n) ((0 : Nat) + j)))] (chain [.v (.int IntKind.u8 (0 : Int))] (0 : Nat) [[.v (.int IntKind.u8 (IntKind.wrap 
    IntKind.u8 (↑(loN n) : Int)))]] ((0 : Nat) + (j - ByteArray.size (ByteArray.mk #[] ++ hiB n)))))]))))) := by kernel_rfl
theorem runNs (t : ByteArray) (n : Nat) (h : (BA.sl t).ok) : bodyE (P := Tryd.prog) (Γ := Γm) [CT.at 94 (ansClone (.sl t) h)] (LN (.sl t) n t) false 30 [.tmp 4, .tmp 5] (bodyOf Tryd.f83) [.sl 1 t.size (bsF t), .v (.int .i64 (n : Int))] [] =
  Tree.br (bif decide ((↑n : Int) < (0 : Int)) then true else decide ((4611686018427387904 : Int) < (↑n : Int))) (.leaf (Ans.mk (.tup [.v (.slice none (0 : Nat) (0 : Nat)), .v (.int .i64 (10 
    : Int))]) [])) (.chk (cl (LeL [.sl 1 (ByteArray.size t) fun j => [.v (.int IntKind.u8 (sbyte t j))]] [.sl 1 (ByteArray.size t) fun j => [.v (.int IntKind.u8 (sbyte t j))]] ∧ LeH [] 
    [])) (.chk (cl (LeL [.v (.int .i64 (↑n : Int)), .hs 0 0 (ByteArray.size t)] [.v (.int .i64 (↑n : Int)), .hs 0 0 (ByteArray.size t)] ∧ LeH [some (.arr 1 (ByteArray.size t) fun j => 
    [.v (.int IntKind.u8 (sbyte t j))])] [some (.arr 1 (ByteArray.size t) fun j => [.v (.int IntKind.u8 (sbyte t j))])])) (.chk (roomOk (1 : Nat) (ByteArray.size (t ++ hiB n) + (1 : 
    Nat))) (.leaf (Ans.mk (.tup [.hs 0 0 (ByteArray.size (t ++ hiB n) + (1 : Nat)), .v (.int .i64 (0 : Int))]) [some (.arr 1 (ByteArray.size (t ++ hiB n) + (1 : Nat)) fun j => mixL 
    (decide (j < ByteArray.size (t ++ hiB n))) [.v (.int IntKind.u8 (sbyte (t ++ hiB n) ((0 : Nat) + j)))] (chain [.v (.int IntKind.u8 (0 : Int))] (0 : Nat) [[.v (.int IntKind.u8 
    (IntKind.wrap IntKind.u8 (↑(loN n) : Int)))]] ((0 : Nat) + (j - ByteArray.size (t ++ hiB n)))))]))))) := by kernel_rfl
theorem runNh (t : ByteArray) (n : Nat) (h : (BA.hs t).ok) : bodyE (P := Tryd.prog) (Γ := Γm) [CT.at 94 (ansClone (.hs t) h)] (LN (.hs t) n t) false 30 [.tmp 4, .tmp 5] (bodyOf Tryd.f83) [.hs 0 0 t.size, .v (.int .i64 (n : Int))] [.arr 1 t.size (bsF t)] =
  Tree.br (bif decide ((↑n : Int) < (0 : Int)) then true else decide ((4611686018427387904 : Int) < (↑n : Int))) (.leaf (Ans.mk (.tup [.v (.slice none (0 : Nat) (0 : Nat)), .v (.int .i64 (10 
    : Int))]) [some (.arr 1 (ByteArray.size t) fun j => [.v (.int IntKind.u8 (sbyte t j))])])) (.chk (cl (LeL [.hs 0 0 (ByteArray.size t)] [.hs 0 0 (ByteArray.size t)] ∧ LeH [some 
    (.arr 1 (ByteArray.size t) fun j => [.v (.int IntKind.u8 (sbyte t j))])] [some (.arr 1 (ByteArray.size t) fun j => [.v (.int IntKind.u8 (sbyte t j))])])) (.chk (cl (LeL [.v (.int 
    .i64 (↑n : Int)), .hs 1 0 (ByteArray.size t)] [.v (.int .i64 (↑n : Int)), .hs 1 0 (ByteArray.size t)] ∧ LeH [some (.arr 1 (ByteArray.size t) fun j => [.v (.int IntKind.u8 (sbyte t 
    j))]), some (.arr 1 (ByteArray.size t) fun j => [.v (.int IntKind.u8 (sbyte t j))])] [some (.arr 1 (ByteArray.size t) fun j => [.v (.int IntKind.u8 (sbyte t j))]), some (.arr 1 
    (ByteArray.size t) fun j => [.v (.int IntKind.u8 (sbyte t j))])])) (.chk (roomOk (1 : Nat) (ByteArray.size (t ++ hiB n) + (1 : Nat))) (.leaf (Ans.mk (.tup [.hs 1 0 (ByteArray.size 
    (t ++ hiB n) + (1 : Nat)), .v (.int .i64 (0 : Int))]) [some (.arr 1 (ByteArray.size t) fun j => [.v (.int IntKind.u8 (sbyte t j))]), some (.arr 1 (ByteArray.size (t ++ hiB n) + (1 
    : Nat)) fun j => mixL (decide (j < ByteArray.size (t ++ hiB n))) [.v (.int IntKind.u8 (sbyte (t ++ hiB n) ((0 : Nat) + j)))] (chain [.v (.int IntKind.u8 (0 : Int))] (0 : Nat) [[.v 
    (.int IntKind.u8 (IntKind.wrap IntKind.u8 (↑(loN n) : Int)))]] ((0 : Nat) + (j - ByteArray.size (t ++ hiB n)))))]))))) := by kernel_rfl
theorem runXn (n : Int) (h : BA.nil.ok) : bodyE (P := Tryd.prog) (Γ := Γm) [CT.at 94 (ansClone .nil h)] Lno false 30 [.tmp 4, .tmp 5] (bodyOf Tryd.f83) [.v (.slice none 0 0), .v (.int .i64 n)] [] =
  Tree.br (bif decide (n < (0 : Int)) then true else decide ((4611686018427387904 : Int) < n)) (.leaf (Ans.mk (.tup [.v (.slice none (0 : Nat) (0 : Nat)), .v (.int .i64 (10 : Int))]) [])) 
    (.chk (cl (LeL [.v (.slice none (0 : Nat) (0 : Nat))] [.v (.slice none (0 : Nat) (0 : Nat))] ∧ LeH [] [])) .fail) := by kernel_rfl
theorem runXs (t : ByteArray) (n : Int) (h : (BA.sl t).ok) : bodyE (P := Tryd.prog) (Γ := Γm) [CT.at 94 (ansClone (.sl t) h)] Lno false 30 [.tmp 4, .tmp 5] (bodyOf Tryd.f83) [.sl 1 t.size (bsF t), .v (.int .i64 n)] [] =
  Tree.br (bif decide (n < (0 : Int)) then true else decide ((4611686018427387904 : Int) < n)) (.leaf (Ans.mk (.tup [.v (.slice none (0 : Nat) (0 : Nat)), .v (.int .i64 (10 : Int))]) [])) 
    (.chk (cl (LeL [.sl 1 (ByteArray.size t) fun j => [.v (.int IntKind.u8 (sbyte t j))]] [.sl 1 (ByteArray.size t) fun j => [.v (.int IntKind.u8 (sbyte t j))]] ∧ LeH [] [])) .fail) := by kernel_rfl
theorem runXh (t : ByteArray) (n : Int) (h : (BA.hs t).ok) : bodyE (P := Tryd.prog) (Γ := Γm) [CT.at 94 (ansClone (.hs t) h)] Lno false 30 [.tmp 4, .tmp 5] (bodyOf Tryd.f83) [.hs 0 0 t.size, .v (.int .i64 n)] [.arr 1 t.size (bsF t)] =
  Tree.br (bif decide (n < (0 : Int)) then true else decide ((4611686018427387904 : Int) < n)) (.leaf (Ans.mk (.tup [.v (.slice none (0 : Nat) (0 : Nat)), .v (.int .i64 (10 : Int))]) [some 
    (.arr 1 (ByteArray.size t) fun j => [.v (.int IntKind.u8 (sbyte t j))])])) (.chk (cl (LeL [.hs 0 0 (ByteArray.size t)] [.hs 0 0 (ByteArray.size t)] ∧ LeH [some (.arr 1 
    (ByteArray.size t) fun j => [.v (.int IntKind.u8 (sbyte t j))])] [some (.arr 1 (ByteArray.size t) fun j => [.v (.int IntKind.u8 (sbyte t j))])])) .fail) := by kernel_rfl
theorem BA.ok_small : ∀ {a : BA}, a.ok → small a.t
  | .nil, _ => by unfold small BA.t; decide
  | .sl _, h => h.1
  | .hs _, h => h.1
theorem numTail (t : ByteArray) (n : Nat) : (t ++ hiB n).size + 1 = (t ++ numB n).size ∧ ∀ j, j < (t ++ hiB n).size + 1 →
    (bif decide (j < (t ++ hiB n).size) then sbyte (t ++ hiB n) ((0 : Nat) + j) else bif ((0 : Nat) + (j - (t ++ hiB n).size)).beq (0 : Nat) then IntKind.u8.wrap (loN n : Int) else (0 : Int)) = sbyte (t ++ numB n) j := by
  have hl := loN_small n
  refine ⟨by simp [numB]; omega, fun j hj => ?_⟩
  have e : IntKind.u8.wrap (loN n : Int) = ((loN n : Nat) : Int) := by rw [wrapU8]; omega
  rw [e, push_eq (by omega) (by omega) hj, Int.toNat_natCast, numB, ByteArray.append_assoc]
theorem pre_of {t : ByteArray} {n : Nat} (h : small t) (hn : n ≤ 4611686018427387904) : preN (n, t) := by
  have := numB_size hn
  unfold numB at this
  simp only [ByteArray.size_append, oneB_size] at this
  unfold small at h
  refine ⟨hn, ?_⟩
  show t.size + (hiB n).size ≤ _
  omega
theorem notBad {n : Nat} (hn : n ≤ 4611686018427387904) : (bif decide ((n : Int) < (0 : Int)) then true else decide ((4611686018427387904 : Int) < (n : Int))) = false := by
  rw [decide_eq_false (by omega), decide_eq_false (by omega)]; rfl
theorem isBad {n : Int} (hn : n < 0 ∨ 4611686018427387904 < n) : (bif decide (n < (0 : Int)) then true else decide ((4611686018427387904 : Int) < n)) = true := by
  by_cases h : n < 0
  · rw [decide_eq_true h]; rfl
  · rw [decide_eq_false h, decide_eq_true (by omega)]; rfl
theorem roomN {t : ByteArray} {n : Nat} (h : small t) (hn : n ≤ 4611686018427387904) : roomOk 1 ((t ++ hiB n).size + 1) = true := by
  have := (pre_of h hn).2
  simp only at this
  exact room' (by simp only [ByteArray.size_append]; omega)
theorem ansNum : ∀ (a : BA) (n : Nat), a.ok → n ≤ 4611686018427387904 → Answers Tryd.prog Γm 83 [a.av, .v (.int .i64 (n : Int))] a.bl (.tup [.hs a.n 0 (a.t ++ numB n).size, .v (.int .i64 0)]) (a.bl.map some) [.arr 1 (a.t ++ numB n).size (bsF (a.t ++ numB n))]
  | .nil, n, h, hn => answers (fn := Tryd.f83) (c := bodyOf Tryd.f83) (ntmps := 30) (results := [.tmp 4, .tmp 5]) [CT.at 94 (ansClone .nil h)] (LN .nil n ⟨#[]⟩) false Tryd.func83 (by kernel_rfl) (by kernel_rfl) (by kernel_rfl) (by kernel_rfl) (by simp) rfl
    (oneLoop (b := loopN) (by kernel_rfl) (loopN_ok .nil (n, ⟨#[]⟩) (pre_of (BA.ok_small h) hn)))
    (Meets.of (runNn n h) ⟨fun hc => by rw [notBad hn] at hc; simp at hc, fun _ => ⟨cl_iff.2 ⟨LeL.refl _, trivial⟩, cl_iff.2 ⟨LeL.refl _, .arr rfl (fun j hj => absurd hj (Nat.not_lt_zero _)) (fun _ => rfl), trivial⟩, roomN (BA.ok_small h) hn, by
      obtain ⟨e1, e2⟩ := numTail ⟨#[]⟩ n
      exact ⟨.of_eq (by rw [e1]; rfl), .arr e1 (fun j hj => by show mixL _ _ (mixL _ _ [AV.v (Value.int IntKind.u8 0)]) = _; rw [mixU, mixU, e2 j hj]; rfl) (fun _ => rfl), trivial⟩⟩⟩)
  | .sl t, n, h, hn => answers (fn := Tryd.f83) (c := bodyOf Tryd.f83) (ntmps := 30) (results := [.tmp 4, .tmp 5]) [CT.at 94 (ansClone (.sl t) h)] (LN (.sl t) n t) false Tryd.func83 (by kernel_rfl) (by kernel_rfl) (by kernel_rfl) (by kernel_rfl) (by simp) rfl
    (oneLoop (b := loopN) (by kernel_rfl) (loopN_ok (.sl t) (n, t) (pre_of (BA.ok_small h) hn)))
    (Meets.of (runNs t n h) ⟨fun hc => by rw [notBad hn] at hc; simp at hc, fun _ => ⟨cl_iff.2 ⟨LeL.refl _, LeH.refl _⟩, cl_iff.2 ⟨LeL.refl _, LeH.refl _⟩, roomN (BA.ok_small h) hn, by
      obtain ⟨e1, e2⟩ := numTail t n
      exact ⟨.of_eq (by rw [e1]; rfl), .arr e1 (fun j hj => by show mixL _ _ (mixL _ _ [AV.v (Value.int IntKind.u8 0)]) = _; rw [mixU, mixU, e2 j hj]; rfl) (fun _ => rfl), trivial⟩⟩⟩)
  | .hs t, n, h, hn => answers (fn := Tryd.f83) (c := bodyOf Tryd.f83) (ntmps := 30) (results := [.tmp 4, .tmp 5]) [CT.at 94 (ansClone (.hs t) h)] (LN (.hs t) n t) false Tryd.func83 (by kernel_rfl) (by kernel_rfl) (by kernel_rfl) (by kernel_rfl) (by simp) rfl
    (oneLoop (b := loopN) (by kernel_rfl) (loopN_ok (.hs t) (n, t) (pre_of (BA.ok_small h) hn)))
    (Meets.of (runNh t n h) ⟨fun hc => by rw [notBad hn] at hc; simp at hc, fun _ => ⟨cl_iff.2 ⟨LeL.refl _, LeH.refl _⟩, cl_iff.2 ⟨LeL.refl _, LeH.refl _⟩, roomN (BA.ok_small h) hn, by
      obtain ⟨e1, e2⟩ := numTail t n
      exact ⟨.of_eq (by rw [e1]; rfl), .refl _, .arr e1 (fun j hj => by show mixL _ _ (mixL _ _ [AV.v (Value.int IntKind.u8 0)]) = _; rw [mixU, mixU, e2 j hj]; rfl) (fun _ => rfl), trivial⟩⟩⟩)
theorem ansBad : ∀ (a : BA) (n : Int), a.ok → n < 0 ∨ 4611686018427387904 < n → Answers Tryd.prog Γm 83 [a.av, .v (.int .i64 n)] a.bl (.tup [.v (.slice none 0 0), .v (.int .i64 10)]) (a.bl.map some) []
  | .nil, n, h, hn => answers (fn := Tryd.f83) (c := bodyOf Tryd.f83) (ntmps := 30) (results := [.tmp 4, .tmp 5]) [CT.at 94 (ansClone .nil h)] Lno false Tryd.func83 (by kernel_rfl) (by kernel_rfl) (by kernel_rfl) (by kernel_rfl) (by simp) rfl
    (fun _ _ _ => fail_ok) (Meets.of (runXn n h) ⟨fun _ => ⟨.refl _, trivial⟩, fun hc => by rw [isBad hn] at hc; simp at hc⟩)
  | .sl t, n, h, hn => answers (fn := Tryd.f83) (c := bodyOf Tryd.f83) (ntmps := 30) (results := [.tmp 4, .tmp 5]) [CT.at 94 (ansClone (.sl t) h)] Lno false Tryd.func83 (by kernel_rfl) (by kernel_rfl) (by kernel_rfl) (by kernel_rfl) (by simp) rfl
    (fun _ _ _ => fail_ok) (Meets.of (runXs t n h) ⟨fun _ => ⟨.refl _, trivial⟩, fun hc => by rw [isBad hn] at hc; simp at hc⟩)
  | .hs t, n, h, hn => answers (fn := Tryd.f83) (c := bodyOf Tryd.f83) (ntmps := 30) (results := [.tmp 4, .tmp 5]) [CT.at 94 (ansClone (.hs t) h)] Lno false Tryd.func83 (by kernel_rfl) (by kernel_rfl) (by kernel_rfl) (by kernel_rfl) (by simp) rfl
    (fun _ _ _ => fail_ok) (Meets.of (runXh t n h) ⟨fun _ => ⟨.refl _, .refl _, trivial⟩, fun hc => by rw [isBad hn] at hc; simp at hc⟩)
end Go.Eng.TA

namespace Go.Eng.TA
open Go Go.Eng Go.Eng.M Go.Eng.RD Go.Lib Go.Proofs
noncomputable def mN (t : ByteArray) (off : Nat) (e m : Int) : Int := if m < qN t off e then 0 else qN t off e
noncomputable def mO (t : ByteArray) (off : Nat) (e m : Int) : Nat := if m < qN t off e then fO t.size (qO t off e) (qE t off e) 33 else qO t off e
noncomputable def mE (t : ByteArray) (off : Nat) (e m : Int) : Int := if m < qN t off e then fE (qE t off e) 33 else qE t off e
theorem runMo (t : ByteArray) (hz : t.size ≤ 1000000000000) (off : Nat) (e m : Int) : bodyE (P := Tryd.prog) (Γ := Γm) [kRn t hz, kFl t] Lno false 14 [.tmp 4] (bodyOf Tryd.f115) [.ptr 0 0, .v (.int .i64 m)] (rdb t off e) =
  Tree.chk (cl (True ∧ LeL [.ptr 0 0] [.ptr 0 0] ∧ LeH [some (.row [.hs (1 : Nat) off (ByteArray.size t - off), .v (.int .i64 e)]), some (.arr 1 (ByteArray.size t) fun j => [.v (.int 
    IntKind.u8 (sbyte t j))])] [some (.row [.hs (1 : Nat) off (ByteArray.size t - off), .v (.int .i64 e)]), some (.arr 1 (ByteArray.size t) fun j => [.v (.int IntKind.u8 (sbyte t 
    j))])])) (.br (decide (m < qN t off e)) (.chk (cl (True ∧ LeL [.ptr 0 0, .v (.int .i64 (33 : Int))] [.ptr 0 0, .v (.int .i64 (33 : Int))] ∧ LeH [some (.row [.hs (1 : Nat) (qO t off 
    e) (ByteArray.size t - qO t off e), .v (.int .i64 (qE t off e))]), some (.arr 1 (ByteArray.size t) fun j => [.v (.int IntKind.u8 (sbyte t j))])] [some (.row [.hs (1 : Nat) (qO t 
    off e) (ByteArray.size t - qO t off e), .v (.int .i64 (qE t off e))]), some (.arr 1 (ByteArray.size t) fun j => [.v (.int IntKind.u8 (sbyte t j))])])) (.leaf (Ans.mk (.v (.int .i64 
    (0 : Int))) [some (.row [.hs (1 : Nat) (fO (ByteArray.size t) (qO t off e) (qE t off e) (33 : Int)) (ByteArray.size t - fO (ByteArray.size t) (qO t off e) (qE t off e) (33 : Int)), 
    .v (.int .i64 (fE (qE t off e) (33 : Int)))]), some (.arr 1 (ByteArray.size t) fun j => [.v (.int IntKind.u8 (sbyte t j))])]))) (.leaf (Ans.mk (.v (.int .i64 (qN t off e))) [some 
    (.row [.hs (1 : Nat) (qO t off e) (ByteArray.size t - qO t off e), .v (.int .i64 (qE t off e))]), some (.arr 1 (ByteArray.size t) fun j => [.v (.int IntKind.u8 (sbyte t j))])]))) := by kernel_rfl
theorem ansMo {t : ByteArray} (hz : t.size ≤ 1000000000000) {off : Nat} {e m : Int} : Answers Tryd.prog Γm 115 [.ptr 0 0, .v (.int .i64 m)] (rdb t off e) (.v (.int .i64 (mN t off e m))) ((rdb t (mO t off e m) (mE t off e m)).map some) [] := by
  refine answers (fn := Tryd.f115) (c := bodyOf Tryd.f115) (ntmps := 14) (results := [.tmp 4]) [kRn t hz, kFl t] (Lno) false Tryd.func115 (by kernel_rfl) (by kernel_rfl) (by kernel_rfl) (by kernel_rfl) (by simp) rfl (failOK fun _ _ _ => rfl) <| Meets.of (runMo t hz off e m) <| ?_
  by_cases h : m < qN t off e
  · have e1 : mN t off e m = 0 := if_pos h
    have e2 : mO t off e m = fO t.size (qO t off e) (qE t off e) 33 := if_pos h
    have e3 : mE t off e m = fE (qE t off e) 33 := if_pos h
    rw [e1, e2, e3]
    repeat' (first | refine wC (by first | omega | (simp only [W1, cond_true, cond_false]; first | done | omega)) ?_ | refine wT (by first | omega | (simp only [W1, cond_true, cond_false]; first | done | omega)) ?_ | refine wF (by intro _h; first | omega | (simp only [W1, cond_true, cond_false] at _h; first | done | omega)) ?_ | (refine wS ?_ ?_ <;> intro _h <;> simp only [W1, cond_true, cond_false] at _h))
    all_goals simp only [W1, W2, owesN, owesX, owesR, cond_true, cond_false]
    repeat' (first | apply And.intro | intro _hc)
    all_goals first | exact AV.le_refl _ | exact AV.le_any _ | exact OLe.refl _ | exact OLe.none _ | exact LeH.refl _ | exact LeL.refl _ | exact AV.le.bs _ | exact AV.le.sb _ | omega | contradiction
  · have e1 : mN t off e m = qN t off e := if_neg h
    have e2 : mO t off e m = qO t off e := if_neg h
    have e3 : mE t off e m = qE t off e := if_neg h
    rw [e1, e2, e3]
    repeat' (first | refine wC (by first | omega | (simp only [W1, cond_true, cond_false]; first | done | omega)) ?_ | refine wT (by first | omega | (simp only [W1, cond_true, cond_false]; first | done | omega)) ?_ | refine wF (by intro _h; first | omega | (simp only [W1, cond_true, cond_false] at _h; first | done | omega)) ?_ | (refine wS ?_ ?_ <;> intro _h <;> simp only [W1, cond_true, cond_false] at _h))
    all_goals simp only [W1, W2, owesN, owesX, owesR, cond_true, cond_false]
    repeat' (first | apply And.intro | intro _hc)
    all_goals first | exact AV.le_refl _ | exact AV.le_any _ | exact OLe.refl _ | exact OLe.none _ | exact LeH.refl _ | exact LeL.refl _ | exact AV.le.bs _ | exact AV.le.sb _ | omega | contradiction
noncomputable def kMo (t : ByteArray) (hz : t.size ≤ 1000000000000) : CT Tryd.prog Γm := CT.par 115 ofRI (fun _ => True) (fun | (off, e, m) => [.ptr 0 0, .v (.int .i64 m)]) (fun | (off, e, m) => rdb t off e) (fun | (off, e, m) => .v (.int .i64 (mN t off e m))) (fun | (off, e, m) => (rdb t (mO t off e m) (mE t off e m)).map some) (fun _ => [])
  (callFunc_enters Tryd.func115 (by kernel_rfl) (by kernel_rfl)) (fun | (off, e, m), _ => ansMo hz)
theorem fO_ok {t : ByteArray} {off : Nat} {e x : Int} (h : okS t off e) (hx : ¬ x = 0) : okS t (fO t.size off e x) (fE e x) := by
  unfold fO fE
  by_cases he : e = 0 ∧ ¬ x = 0
  · rw [if_pos he, if_pos he]; exact ⟨Nat.le_refl _, .inr rfl⟩
  · rw [if_neg he, if_neg he]; exact h
theorem m_ok {t : ByteArray} {off : Nat} {e m : Int} (h : okS t off e) : okS t (mO t off e m) (mE t off e m) := by
  unfold mO mE
  by_cases hm : m < qN t off e
  · rw [if_pos hm, if_pos hm]; exact fO_ok (q_okS h) (by decide)
  · rw [if_neg hm, if_neg hm]; exact q_okS h
theorem m_range {t : ByteArray} {off : Nat} {e m : Int} (hm : 0 ≤ m) : 0 ≤ mN t off e m ∧ mN t off e m ≤ m := by
  have := qN_range (t := t) (off := off) (e := e)
  unfold mN
  by_cases hm : m < qN t off e
  · rw [if_pos hm]; omega
  · rw [if_neg hm]; omega
noncomputable def lT (t : ByteArray) (off : Nat) (e : Int) : Nat := (mN t off e 65536).toNat
noncomputable def oT (t : ByteArray) (off : Nat) (e : Int) : Nat := mO t off e 65536
noncomputable def eT (t : ByteArray) (off : Nat) (e : Int) : Int := mE t off e 65536
noncomputable def xS (t : ByteArray) (off : Nat) (e : Int) : ByteArray := if t.size - oT t off e < lT t off e then ⟨#[]⟩ else t.extract (oT t off e) (oT t off e + lT t off e)
noncomputable def xO (t : ByteArray) (off : Nat) (e : Int) : Nat := if t.size - oT t off e < lT t off e then fO t.size (oT t off e) (eT t off e) 30 else oT t off e + lT t off e
noncomputable def xE (t : ByteArray) (off : Nat) (e : Int) : Int := if t.size - oT t off e < lT t off e then fE (eT t off e) 30 else eT t off e
theorem x_ok {t : ByteArray} {off : Nat} {e : Int} (h : okS t off e) : okS t (xO t off e) (xE t off e) := by
  have hm : okS t (oT t off e) (eT t off e) := m_ok h
  unfold xO xE
  by_cases hl : t.size - oT t off e < lT t off e
  · rw [if_pos hl, if_pos hl]; exact fO_ok hm (by decide)
  · rw [if_neg hl, if_neg hl]
    refine ⟨by have := hm.1; omega, ?_⟩
    rcases hm.2 with h1 | h1
    · exact .inl h1
    · exact .inr (by omega)
theorem textOf_cong {n : Nat} {f g : Nat → List AV} (h : ∀ j, j < n → f j = g j) : textOf n f = textOf n g := by
  unfold textOf
  congr 2
  refine List.map_congr_left fun j hj => ?_
  rw [h j (by simpa using hj)]
theorem textOf_ext {t : ByteArray} {o n : Nat} (h : o + n ≤ t.size) : textOf n (fun j => [AV.v (Value.int IntKind.u8 (sbyte t (o + j)))]) = t.extract o (o + n) := by
  have hs : (t.extract o (o + n)).size = n := by rw [ext_size _ _ _ h]; omega
  rw [textOf_cong (g := bsF (t.extract o (o + n))) (fun j hj => by
    show [AV.v (Value.int IntKind.u8 ((bN t (o + j) : Nat) : Int))] = [AV.v (Value.int IntKind.u8 ((bN (t.extract o (o + n)) j : Nat) : Int))]
    rw [bN_extract _ _ _ _ h, if_pos (by omega)])]
  exact textOf_bs hs.symm
theorem allB_x {n : Nat} {f : Nat → Int} : (allBytes n fun j => [AV.v (Value.int IntKind.u8 (f j))]) = true := by
  unfold allBytes
  rw [List.all_eq_true]
  intro j _
  rfl
theorem runTxt (t : ByteArray) (n : Nat) (e : Int) (off : Nat) (e' : Int) (o : Nat) (h : Answers Tryd.prog Γm 115 [.ptr 0 0, .v (.int .i64 65536)] (rdb t off e') (.v (.int .i64 (n : Int))) ((rdb t o e).map some) []) : bodyE (P := Tryd.prog) (Γ := Γm) [CT.at 115 h, kRs t, kFl t] Lno false 32 [.tmp 2] (bodyOf Tryd.f97) [.ptr 0 0] (rdb t off e') =
  Tree.chk (cl (LeL [.ptr 0 0, .v (.int .i64 (65536 : Int))] [.ptr 0 0, .v (.int .i64 (65536 : Int))] ∧ LeH [some (.row [.hs (1 : Nat) off (ByteArray.size t - off), .v (.int .i64 e')]), some 
    (.arr 1 (ByteArray.size t) fun j => [.v (.int IntKind.u8 (sbyte t j))])] [some (.row [.hs (1 : Nat) off (ByteArray.size t - off), .v (.int .i64 e')]), some (.arr 1 (ByteArray.size 
    t) fun j => [.v (.int IntKind.u8 (sbyte t j))])])) (.chk (cl (True ∧ LeL [.ptr 0 0] [.ptr 0 0] ∧ LeH [some (.row [.hs (1 : Nat) o (ByteArray.size t - o), .v (.int .i64 e)]), some 
    (.arr 1 (ByteArray.size t) fun j => [.v (.int IntKind.u8 (sbyte t j))])] [some (.row [.hs (1 : Nat) o (ByteArray.size t - o), .v (.int .i64 e)]), some (.arr 1 (ByteArray.size t) 
    fun j => [.v (.int IntKind.u8 (sbyte t j))])])) (.br (decide ((↑(ByteArray.size t - o) : Int) < (↑n : Int))) (.chk (cl (True ∧ LeL [.ptr 0 0, .v (.int .i64 (30 : Int))] [.ptr 0 0, 
    .v (.int .i64 (30 : Int))] ∧ LeH [some (.row [.hs (1 : Nat) o (ByteArray.size t - o), .v (.int .i64 e)]), some (.arr 1 (ByteArray.size t) fun j => [.v (.int IntKind.u8 (sbyte t 
    j))])] [some (.row [.hs (1 : Nat) o (ByteArray.size t - o), .v (.int .i64 e)]), some (.arr 1 (ByteArray.size t) fun j => [.v (.int IntKind.u8 (sbyte t j))])])) (.leaf (Ans.mk (.v 
    (.string (ByteArray.mk #[]))) [some (.row [.hs (1 : Nat) (fO (ByteArray.size t) o e (30 : Int)) (ByteArray.size t - fO (ByteArray.size t) o e (30 : Int)), .v (.int .i64 (fE e (30 : 
    Int)))]), some (.arr 1 (ByteArray.size t) fun j => [.v (.int IntKind.u8 (sbyte t j))])]))) (.br (decide ((↑n : Int) = (0 : Int))) (.leaf (Ans.mk (.v (.string (ByteArray.mk #[]))) 
    [some (.row [.hs (1 : Nat) o (ByteArray.size t - o), .v (.int .i64 e)]), some (.arr 1 (ByteArray.size t) fun j => [.v (.int IntKind.u8 (sbyte t j))])])) (.chk (decide ((↑(0 : Nat) 
    : Int) ≤ (↑n : Int)) && decide ((↑n : Int) ≤ (↑(ByteArray.size t - o) : Int)) && allBytes n fun j => [.v (.int IntKind.u8 (sbyte t (o + (0 : Nat) + j)))]) (.chk (decide ((0 : Int) 
    ≤ (↑n : Int)) && decide ((↑n : Int) ≤ (↑(ByteArray.size t - o) : Int)) && decide ((↑(ByteArray.size t - o) : Int) ≤ (↑(ByteArray.size t - o) : Int))) (.leaf (Ans.mk (.v (.string 
    (textOf n fun j => [.v (.int IntKind.u8 (sbyte t (o + (0 : Nat) + j)))]))) [some (.row [.hs (1 : Nat) (o + n) (ByteArray.size t - o - n), .v (.int .i64 e)]), some (.arr 1 
    (ByteArray.size t) fun j => [.v (.int IntKind.u8 (sbyte t j))])]))))))) := by kernel_rfl
theorem ext_zero {t : ByteArray} {o : Nat} (h : o ≤ t.size) : t.extract o (o + 0) = ⟨#[]⟩ := bN_eq (by rw [ext_size _ _ _ (by omega)]; show o + 0 - o = 0; omega) (fun j hj => by
  rw [ext_size _ _ _ (by omega)] at hj; omega)
theorem ansTt {t : ByteArray} (hz : t.size ≤ 1000000000000) {off : Nat} {e : Int} (hk : okS t off e) : Answers Tryd.prog Γm 97 [.ptr 0 0] (rdb t off e) (.v (.string (xS t off e))) ((rdb t (xO t off e) (xE t off e)).map some) [] := by
  have h0 : Answers Tryd.prog Γm 115 [.ptr 0 0, .v (.int .i64 65536)] (rdb t off e) (.v (.int .i64 (lT t off e : Int))) ((rdb t (oT t off e) (eT t off e)).map some) [] := by
    have := ansMo hz (off := off) (e := e) (m := 65536)
    rw [← Int.toNat_of_nonneg (m_range (t := t) (off := off) (e := e) (m := 65536) (by decide)).1] at this
    exact this
  have hm : okS t (oT t off e) (eT t off e) := m_ok hk
  have hl : lT t off e ≤ 65536 := by
    have := (m_range (t := t) (off := off) (e := e) (m := 65536) (by decide)).2
    unfold lT; omega
  have hxS : xS t off e = if t.size - oT t off e < lT t off e then ⟨#[]⟩ else t.extract (oT t off e) (oT t off e + lT t off e) := rfl
  have hxO : xO t off e = if t.size - oT t off e < lT t off e then fO t.size (oT t off e) (eT t off e) 30 else oT t off e + lT t off e := rfl
  have hxE : xE t off e = if t.size - oT t off e < lT t off e then fE (eT t off e) 30 else eT t off e := rfl
  rw [hxS, hxO, hxE]
  generalize lT t off e = n at *
  generalize oT t off e = o at *
  generalize eT t off e = e1 at *
  refine answers (fn := Tryd.f97) (c := bodyOf Tryd.f97) (ntmps := 32) (results := [.tmp 2]) [CT.at 115 h0, kRs t, kFl t] (Lno) false Tryd.func97 (by kernel_rfl) (by kernel_rfl) (by kernel_rfl) (by kernel_rfl) (by simp) rfl (failOK fun _ _ _ => rfl) <| Meets.of (runTxt t n e1 off e o h0) <| ?_
  have hm1 := hm.1
  by_cases h : t.size - o < n
  · rw [if_pos h, if_pos h, if_pos h]
    repeat' (first | refine wC (by first | omega | (simp only [W1, cond_true, cond_false]; first | done | omega)) ?_ | refine wT (by first | omega | (simp only [W1, cond_true, cond_false]; first | done | omega)) ?_ | refine wF (by intro _h; first | omega | (simp only [W1, cond_true, cond_false] at _h; first | done | omega)) ?_ | (refine wS ?_ ?_ <;> intro _h <;> simp only [W1, cond_true, cond_false] at _h))
    all_goals simp only [W1, W2, owesN, owesX, owesR, cond_true, cond_false]
    repeat' (first | apply And.intro | intro _hc)
    all_goals first | exact AV.le_refl _ | exact AV.le_any _ | exact OLe.refl _ | exact OLe.none _ | exact LeH.refl _ | exact LeL.refl _ | exact AV.le.bs _ | exact AV.le.sb _ | omega | contradiction
  · rw [if_neg h, if_neg h, if_neg h]
    by_cases h1 : n = 0
    · subst h1
      rw [ext_zero hm1]
      repeat' (first | refine wC (by first | omega | (simp only [W1, cond_true, cond_false]; first | done | omega)) ?_ | refine wT (by first | omega | (simp only [W1, cond_true, cond_false]; first | done | omega)) ?_ | refine wF (by intro _h; first | omega | (simp only [W1, cond_true, cond_false] at _h; first | done | omega)) ?_ | (refine wS ?_ ?_ <;> intro _h <;> simp only [W1, cond_true, cond_false] at _h))
      all_goals simp only [W1, W2, owesN, owesX, owesR, cond_true, cond_false]
      repeat' (first | apply And.intro | intro _hc)
      all_goals first | exact AV.le_refl _ | exact AV.le_any _ | exact OLe.refl _ | exact OLe.none _ | exact LeH.refl _ | exact LeL.refl _ | exact AV.le.bs _ | exact AV.le.sb _ | omega | contradiction
    · have hx : textOf n (fun j => [AV.v (Value.int IntKind.u8 (sbyte t (o + j)))]) = t.extract o (o + n) := textOf_ext (by omega)
      have hs : t.size - o - n = t.size - (o + n) := by omega
      simp only [Nat.add_zero, hx, hs]
      repeat' (first | refine wC (by first | omega | (simp only [W1, cond_true, cond_false, allB_x]; first | done | omega)) ?_ | refine wT (by first | omega | (simp only [W1, cond_true, cond_false, allB_x]; first | done | omega)) ?_ | refine wF (by intro _h; first | omega | (simp only [W1, cond_true, cond_false, allB_x] at _h; first | done | omega)) ?_ | (refine wS ?_ ?_ <;> intro _h <;> simp only [W1, cond_true, cond_false, allB_x] at _h))
      all_goals simp only [W1, W2, owesN, owesX, owesR, cond_true, cond_false, allB_x]
      repeat' (first | apply And.intro | intro _hc)
      all_goals first | exact AV.le_refl _ | exact AV.le_any _ | exact OLe.refl _ | exact OLe.none _ | exact LeH.refl _ | exact LeL.refl _ | exact AV.le.bs _ | exact AV.le.sb _ | omega | contradiction
noncomputable def kTt (t : ByteArray) (hz : t.size ≤ 1000000000000) : CT Tryd.prog Γm := CT.par 97 ofR (fun | (off, e) => okS t off e) (fun _ => [.ptr 0 0]) (fun | (off, e) => rdb t off e) (fun | (off, e) => .v (.string (xS t off e))) (fun | (off, e) => (rdb t (xO t off e) (xE t off e)).map some) (fun _ => [])
  (callFunc_enters Tryd.func97 (by kernel_rfl) (by kernel_rfl)) (fun | (off, e), h => ansTt hz h)
theorem runCcap (cap : Nat) : bodyE (P := Tryd.prog) (Γ := Γm) [] Lno false 8 [.tmp 2] (bodyOf Tryd.f94) [.v (.slice none 0 cap)] [] =
  Tree.leaf (Ans.mk (.v (.slice none (0 : Nat) (0 : Nat))) []) := by kernel_rfl
theorem runCmk  : bodyE (P := Tryd.prog) (Γ := Γm) [] Lno false 8 [.tmp 2] (bodyOf Tryd.f94) [.sl 1 0 fun _ => [.v (.tuple #[])]] [] =
  Tree.chk true (.chk true (.leaf (Ans.mk (.hs 0 0 (0 : Nat)) [some (.arr 1 (0 : Nat) fun j => mixL (decide (j < (0 : Nat))) (chain [.v (.int IntKind.u8 (0 : Int))] (0 : Nat) [] ((0 : Nat) + 
    j)) [.v (.tuple #[])])]))) := by kernel_rfl
theorem ansClE {g : Nat → List AV} : Answers Tryd.prog Γm 94 [.sl 1 0 g] [] (.hs 0 0 0) [] [.arr 1 0 fun _ => [.v (.int .u8 0)]] := by
  refine Answers.nilSl (sz := 1) (z := [.v (.int .u8 0)]) rfl (M := [.v (.tuple #[])]) rfl (fun cap => ?_) ?_
  · refine answers (fn := Tryd.f94) (c := bodyOf Tryd.f94) (ntmps := 8) (results := [.tmp 2]) [] (Lno) false Tryd.func94 (by kernel_rfl) (by kernel_rfl) (by kernel_rfl) (by kernel_rfl) (by simp) rfl (failOK fun _ _ _ => rfl) <| Meets.of (runCcap cap) <| ?_
    repeat' (first | refine wC (by first | omega | (simp only [W1, cond_true, cond_false]; first | done | omega)) ?_ | refine wT (by first | omega | (simp only [W1, cond_true, cond_false]; first | done | omega)) ?_ | refine wF (by intro _h; first | omega | (simp only [W1, cond_true, cond_false] at _h; first | done | omega)) ?_ | (refine wS ?_ ?_ <;> intro _h <;> simp only [W1, cond_true, cond_false] at _h))
    all_goals simp only [W1, W2, owesN, owesX, owesR, cond_true, cond_false]
    repeat' (first | apply And.intro | intro _hc)
    all_goals first | exact AV.le_refl _ | exact AV.le_any _ | exact OLe.refl _ | exact OLe.none _ | exact LeH.refl _ | exact LeL.refl _ | exact AV.le.bs _ | exact AV.le.sb _ | omega | contradiction
  · refine answers (fn := Tryd.f94) (c := bodyOf Tryd.f94) (ntmps := 8) (results := [.tmp 2]) [] (Lno) false Tryd.func94 (by kernel_rfl) (by kernel_rfl) (by kernel_rfl) (by kernel_rfl) (by simp) rfl (failOK fun _ _ _ => rfl) <| Meets.of (runCmk) <| ?_
    refine ⟨rfl, rfl, .refl _, OLe.arr rfl (fun e he => absurd he (Nat.not_lt_zero e)) (fun _ => rfl), trivial⟩
theorem runNwE (g : Nat → List AV) : bodyE (P := Tryd.prog) (Γ := Γm) [CT.at 94 (ansClE (g := g))] Lno false 7 [.tmp 2] (bodyOf Tryd.f38) [.sl 1 0 g] [] =
  Tree.chk (cl (LeL [.sl 1 (0 : Nat) g] [.sl 1 (0 : Nat) g] ∧ LeH [] [])) (.leaf (Ans.mk (.ptr 0 0) [some (.row [.hs 1 0 (0 : Nat), .v (.int .i64 (0 : Int))]), some (.arr 1 (0 : Nat) fun x => 
    [.v (.int IntKind.u8 (0 : Int))])])) := by kernel_rfl
theorem runNwH (t : ByteArray) (h : (BA.hs t).ok) : bodyE (P := Tryd.prog) (Γ := Γm) [CT.at 94 (ansClone (.hs t) h)] Lno false 7 [.tmp 2] (bodyOf Tryd.f38) [.hs 0 0 t.size] [.arr 1 t.size (bsF t)] =
  Tree.chk (cl (LeL [.hs 0 0 (ByteArray.size t)] [.hs 0 0 (ByteArray.size t)] ∧ LeH [some (.arr 1 (ByteArray.size t) fun j => [.v (.int IntKind.u8 (sbyte t j))])] [some (.arr 1 
    (ByteArray.size t) fun j => [.v (.int IntKind.u8 (sbyte t j))])])) (.leaf (Ans.mk (.ptr 1 0) [some (.arr 1 (ByteArray.size t) fun j => [.v (.int IntKind.u8 (sbyte t j))]), some 
    (.row [.hs 2 0 (ByteArray.size t), .v (.int .i64 (0 : Int))]), some (.arr 1 (ByteArray.size t) fun j => [.v (.int IntKind.u8 (sbyte t j))])])) := by kernel_rfl
theorem ansNwE {g : Nat → List AV} : Answers Tryd.prog Γm 38 [.sl 1 0 g] [] (.ptr 0 0) [] (rdb ⟨#[]⟩ 0 0) := by
  refine answers (fn := Tryd.f38) (c := bodyOf Tryd.f38) (ntmps := 7) (results := [.tmp 2]) [CT.at 94 (ansClE (g := g))] (Lno) false Tryd.func38 (by kernel_rfl) (by kernel_rfl) (by kernel_rfl) (by kernel_rfl) (by simp) rfl (failOK fun _ _ _ => rfl) <| Meets.of (runNwE g) <| ?_
  repeat' (first | refine wC (by first | omega | (simp only [W1, cond_true, cond_false]; first | done | omega)) ?_ | refine wT (by first | omega | (simp only [W1, cond_true, cond_false]; first | done | omega)) ?_ | refine wF (by intro _h; first | omega | (simp only [W1, cond_true, cond_false] at _h; first | done | omega)) ?_ | (refine wS ?_ ?_ <;> intro _h <;> simp only [W1, cond_true, cond_false] at _h))
  all_goals simp only [W1, W2, owesN, owesX, owesR, cond_true, cond_false]
  repeat' (first | apply And.intro | intro _hc)
  all_goals first | exact OLe.arr rfl (fun e he => absurd he (Nat.not_lt_zero e)) (fun _ => rfl) | exact AV.le_refl _ | exact AV.le_any _ | exact OLe.refl _ | exact OLe.none _ | exact LeH.refl _ | exact LeL.refl _ | exact AV.le.bs _ | exact AV.le.sb _ | omega | contradiction
theorem ansNwH {t : ByteArray} (h : (BA.hs t).ok) : Answers Tryd.prog Γm 38 [.hs 0 0 t.size] [.arr 1 t.size (bsF t)] (.ptr 1 0) [some (.arr 1 t.size (bsF t))] [.row [.hs 2 0 t.size, .v (.int .i64 0)], .arr 1 t.size (bsF t)] := by
  refine answers (fn := Tryd.f38) (c := bodyOf Tryd.f38) (ntmps := 7) (results := [.tmp 2]) [CT.at 94 (ansClone (.hs t) h)] (Lno) false Tryd.func38 (by kernel_rfl) (by kernel_rfl) (by kernel_rfl) (by kernel_rfl) (by simp) rfl (failOK fun _ _ _ => rfl) <| Meets.of (runNwH t h) <| ?_
  repeat' (first | refine wC (by first | omega | (simp only [W1, cond_true, cond_false]; first | done | omega)) ?_ | refine wT (by first | omega | (simp only [W1, cond_true, cond_false]; first | done | omega)) ?_ | refine wF (by intro _h; first | omega | (simp only [W1, cond_true, cond_false] at _h; first | done | omega)) ?_ | (refine wS ?_ ?_ <;> intro _h <;> simp only [W1, cond_true, cond_false] at _h))
  all_goals simp only [W1, W2, owesN, owesX, owesR, cond_true, cond_false]
  repeat' (first | apply And.intro | intro _hc)
  all_goals first | exact AV.le_refl _ | exact AV.le_any _ | exact OLe.refl _ | exact OLe.none _ | exact LeH.refl _ | exact LeL.refl _ | exact AV.le.bs _ | exact AV.le.sb _ | omega | contradiction
end Go.Eng.TA

namespace Go.Eng.TA.R
open Go Go.Eng Go.Eng.M Go.Eng.RD Go.Lib Go.Proofs
structure RX where
  off : Nat
  len : Nat
  e : Int
  N : Nat
  f : Nat → List AV
def RX.ok (t : ByteArray) (x : RX) : Prop := x.len = t.size - x.off ∧ x.N = t.size ∧ x.f = bsF t
def toX : List AV → List Blk → Option RX
  | [.ptr 0 0], [.row [.hs 1 off len, .v (.int .i64 e)], .arr 1 N f] => some ⟨off, len, e, N, f⟩
  | _, _ => none
def toXI : List AV → List Blk → Option (RX × Int)
  | [.ptr 0 0, .v (.int .i64 n)], [.row [.hs 1 off len, .v (.int .i64 e)], .arr 1 N f] => some (⟨off, len, e, N, f⟩, n)
  | _, _ => none
def rdu (t : ByteArray) (off : Nat) (e : Int) : List (Option (Option Blk)) := [some (some (.row [.hs 1 off (t.size - off), .v (.int .i64 e)])), none]
theorem toX_inv {args : List AV} {Hin : List Blk} {x : RX} {t : ByteArray} (h : toX args Hin = some x) (hp : x.ok t) : args = [.ptr 0 0] ∧ Hin = rdb t x.off x.e := by
  unfold toX at h
  split at h
  · cases h
    obtain ⟨h1, h2, h3⟩ := hp
    simp only at h1 h2 h3
    subst h1; subst h2; subst h3
    exact ⟨rfl, rfl⟩
  · cases h
theorem toXI_inv {args : List AV} {Hin : List Blk} {x : RX × Int} {t : ByteArray} (h : toXI args Hin = some x) (hp : x.1.ok t) : args = [.ptr 0 0, .v (.int .i64 x.2)] ∧ Hin = rdb t x.1.off x.1.e := by
  unfold toXI at h
  split at h
  · cases h
    obtain ⟨h1, h2, h3⟩ := hp
    simp only at h1 h2 h3
    subst h1; subst h2; subst h3
    exact ⟨rfl, rfl⟩
  · cases h
noncomputable def hRn (t : ByteArray) (hz : t.size ≤ 1000000000000) : CT Tryd.prog Γm := CT.ex 95 toX (RX.ok t) (fun x => .v (.int .i64 (qN t x.off x.e))) (fun x => rdu t (qO t x.off x.e) (qE t x.off x.e)) (fun _ => [])
  (callFunc_enters Tryd.func95 (by kernel_rfl) (by kernel_rfl)) (fun args Hin x hx hp => by
    obtain ⟨rfl, rfl⟩ := toX_inv hx hp
    exact (ansRn hz).cU rfl)
noncomputable def hTt (t : ByteArray) (hz : t.size ≤ 1000000000000) : CT Tryd.prog Γm := CT.ex 97 toX (fun x => x.ok t ∧ okS t x.off x.e) (fun x => .v (.string (xS t x.off x.e))) (fun x => rdu t (xO t x.off x.e) (xE t x.off x.e)) (fun _ => [])
  (callFunc_enters Tryd.func97 (by kernel_rfl) (by kernel_rfl)) (fun args Hin x hx hp => by
    obtain ⟨rfl, rfl⟩ := toX_inv hx hp.1
    exact (ansTt hz hp.2).cU rfl)
noncomputable def hFl (t : ByteArray) : CT Tryd.prog Γm := CT.ex 96 toXI (fun x => x.1.ok t) (fun _ => .tup []) (fun x => rdu t (fO t.size x.1.off x.1.e x.2) (fE x.1.e x.2)) (fun _ => [])
  (callFunc_enters Tryd.func96 (by kernel_rfl) (by kernel_rfl)) (fun args Hin x hx hp => by
    obtain ⟨rfl, rfl⟩ := toXI_inv hx hp
    exact ansFl.cU rfl)
noncomputable def hMo (t : ByteArray) (hz : t.size ≤ 1000000000000) : CT Tryd.prog Γm := CT.ex 115 toXI (fun x => x.1.ok t) (fun x => .v (.int .i64 (mN t x.1.off x.1.e x.2))) (fun x => rdu t (mO t x.1.off x.1.e x.2) (mE t x.1.off x.1.e x.2)) (fun _ => [])
  (callFunc_enters Tryd.func115 (by kernel_rfl) (by kernel_rfl)) (fun args Hin x hx hp => by
    obtain ⟨rfl, rfl⟩ := toXI_inv hx hp
    exact (ansMo hz).cU rfl)
noncomputable def hRs (t : ByteArray) : CT Tryd.prog Γm := CT.ex 43 toX (RX.ok t) (fun x => .v (.int .i64 ((t.size - x.off : Nat) : Int))) (fun _ => []) (fun _ => [])
  (callFunc_enters Tryd.func43 (by kernel_rfl) (by kernel_rfl)) (fun args Hin x hx hp => by
    obtain ⟨rfl, rfl⟩ := toX_inv hx hp
    exact ansRs.cU rfl)
noncomputable def hDn (t : ByteArray) : CT Tryd.prog Γm := CT.ex 41 toX (RX.ok t) (fun x => .v (.int .i64 (dE t x.off x.e))) (fun _ => []) (fun _ => [])
  (callFunc_enters Tryd.func41 (by kernel_rfl) (by kernel_rfl)) (fun args Hin x hx hp => by
    obtain ⟨rfl, rfl⟩ := toX_inv hx hp
    exact ansDn.cU rfl)
end Go.Eng.TA.R

namespace Go.Eng.TA.R
open Go Go.Eng Go.Eng.M Go.Eng.RD Go.Lib Go.Proofs
def At (t : ByteArray) (off : Nat) (w : ByteArray) : Prop := off + w.size ≤ t.size ∧ ∀ j, j < w.size → bN t (off + j) = bN w j
theorem bN_app (a b : ByteArray) (j : Nat) : bN (a ++ b) j = if j < a.size then bN a j else bN b (j - a.size) := by
  have := sbyte_append a b j
  have e : ∀ (s : ByteArray) (i : Nat), sbyte s i = ((bN s i : Nat) : Int) := fun _ _ => rfl
  simp only [e] at this
  by_cases h : j < a.size
  · rw [if_pos h] at this ⊢; omega
  · rw [if_neg h] at this ⊢; omega
theorem At.left {t a b : ByteArray} {off : Nat} (h : At t off (a ++ b)) : At t off a := by
  obtain ⟨h1, h2⟩ := h
  rw [ByteArray.size_append] at h1
  refine ⟨by omega, fun j hj => ?_⟩
  rw [h2 j (by rw [ByteArray.size_append]; omega), bN_app, if_pos hj]
theorem At.right {t a b : ByteArray} {off : Nat} (h : At t off (a ++ b)) : At t (off + a.size) b := by
  obtain ⟨h1, h2⟩ := h
  rw [ByteArray.size_append] at h1
  refine ⟨by omega, fun j hj => ?_⟩
  have := h2 (a.size + j) (by rw [ByteArray.size_append]; omega)
  rw [bN_app, if_neg (by omega), show a.size + j - a.size = j by omega] at this
  rw [← this]; congr 1; omega
theorem At.pre (b rest : ByteArray) : At (b ++ rest) 0 b := by
  refine ⟨by rw [ByteArray.size_append]; omega, fun j hj => ?_⟩
  rw [Nat.zero_add, bN_app, if_pos hj]
theorem At.ext {t w : ByteArray} {off : Nat} (h : At t off w) : t.extract off (off + w.size) = w := by
  obtain ⟨h1, h2⟩ := h
  refine bN_eq (by rw [ext_size _ _ _ h1]; omega) (fun j hj => ?_)
  rw [ext_size _ _ _ h1] at hj
  rw [bN_extract _ _ _ _ h1, if_pos (by omega), h2 j (by omega)]
theorem At.num {t : ByteArray} {off n : Nat} (h : At t off (numB n)) (hn : n ≤ 4611686018427387904) : qN t off 0 = (n : Int) ∧ qO t off 0 = off + (numB n).size ∧ qE t off 0 = 0 := by
  obtain ⟨h1, h2⟩ := h
  have hs := (numB_size hn).1
  obtain ⟨i, e1, g, e2⟩ := numB_good n t off fun j hj => by
    show ((bN t (off + j) : Nat) : Int) = ((bN (numB n) j : Nat) : Int)
    rw [h2 j hj]
  have hg : IsGood t off (t.size - off) i := ⟨by omega, by omega, g, by omega⟩
  obtain ⟨a1, a2, a3⟩ := q_good hg
  rw [a1, a2, a3, e2, e1]
  exact ⟨rfl, rfl, rfl⟩
theorem At.text {t s : ByteArray} {off : Nat} (h : At t off (numB s.size ++ s)) (hs : s.size ≤ 65536) : xS t off 0 = s ∧ xO t off 0 = off + (numB s.size ++ s).size ∧ xE t off 0 = 0 := by
  obtain ⟨a1, a2, a3⟩ := h.left.num (by omega)
  have hr := h.right
  have hm : ¬ (65536 : Int) < qN t off 0 := by rw [a1]; omega
  have l1 : lT t off 0 = s.size := by
    unfold lT mN
    rw [if_neg hm, a1]; rfl
  have o1 : oT t off 0 = off + (numB s.size).size := by
    unfold oT mO
    rw [if_neg hm, a2]
  have e1 : eT t off 0 = 0 := by
    unfold eT mE
    rw [if_neg hm, a3]
  have hc : ¬ t.size - oT t off 0 < lT t off 0 := by
    have := hr.1
    rw [l1, o1]; omega
  unfold xS xO xE
  rw [if_neg hc, if_neg hc, if_neg hc, l1, o1, e1, hr.ext, ByteArray.size_append, Nat.add_assoc]
  exact ⟨rfl, rfl, rfl⟩
end Go.Eng.TA.R

namespace Go.Eng.TA
open Go Go.Eng Go.Eng.M Go.Lib Go.Proofs
theorem dec_asc {s : ByteArray} {p : Nat} (h : bN s p < 128) : Utf8.decode s p = (bN s p, 1) := by
  rw [decode_bN]
  unfold decodeN
  rw [if_pos h]
theorem dec_high {s : ByteArray} {p : Nat} (h : 128 ≤ bN s p) : 128 ≤ (Utf8.decode s p).1 := by
  rw [decode_bN]
  rcases shapeN (s.size - p) (bN s p) (bN s (p + 1)) (bN s (p + 2)) (bN s (p + 3)) with ⟨h1, e⟩ | ⟨_, _, _, h1, e⟩ | ⟨_, _, _, _, h1, _, e⟩ | ⟨_, _, _, _, _, h1, _, e⟩ | ⟨e, _⟩ <;> rw [e] <;> dsimp only <;> omega
def isD (b : Nat) : Prop := 48 ≤ b ∧ b ≤ 57
def ngB (s : ByteArray) : Bool := decide (0 < s.size) && decide (bN s 0 = 45)
def loS (s : ByteArray) : Nat := if ngB s then 1 else 0
def bdS (s : ByteArray) : ByteArray := s.extract (loS s) s.size
def aD (s : ByteArray) : Prop := ∀ i, loS s ≤ i → i < s.size → isD (bN s i)
theorem lo_le {s : ByteArray} : loS s ≤ s.size := by
  unfold loS ngB
  split
  · rename_i h; simp at h; omega
  · omega
theorem bd_size {s : ByteArray} : (bdS s).size = s.size - loS s := ext_size _ _ _ (Nat.le_refl _)
theorem bd_at {s : ByteArray} {i : Nat} (h : i < (bdS s).size) : bN (bdS s) i = bN s (loS s + i) := by
  rw [bd_size] at h
  unfold bdS
  rw [bN_extract _ _ _ _ (Nat.le_refl _), if_pos (by omega)]
theorem bd_neg {s : ByteArray} (h : ngB s = true) : bdS s = s.extract 1 s.size := by
  unfold bdS loS; rw [if_pos h]
theorem bd_pos {s : ByteArray} (h : ngB s = false) : bdS s = s := by
  unfold bdS loS; rw [if_neg (by rw [h]; decide)]; exact ext_all s
noncomputable abbrev lpFm : Code := loopOf (bodyOf Tryd.f113) 0
abbrev lvFm : List Nat := [0, 2, 3, 10, 4]
structure XF where
  p : Nat
  d : ByteArray
  n : Bool
def SFm (s : ByteArray) (x : XF) : List AV × Heap := ([.v (.string s), .v (.string x.d), .sb x.n, .its 0, .any], [some (.sit s x.p)])
theorem rFm (s : ByteArray) (x : XF) : roundE (P := Tryd.prog) (Γ := Γm) [] Lno false 0 0 lpFm lvFm [] 54 (SFm s x).1 (SFm s x).2 =
  Tree.br (decide (x.p < ByteArray.size s)) (.br (bif decide ((↑x.p : Int) = (0 : Int)) then decide ((↑(Utf8.decode s x.p).fst : Int) = (45 : Int)) else false) (.chk (decide ((1 : Int) ≤ 
    (↑(ByteArray.size s) : Int)) && decide ((↑(ByteArray.size s) : Int) ≤ (↑(ByteArray.size s) : Int))) (.leaf (.mk .normal [.v (.string s), .v (.string (ByteArray.extract s (Int.toNat 
    (1 : Int)) (ByteArray.size s))), .v (.bool true), AV.its (0 : Nat), .any] [some (Blk.sit s (x.p + (Utf8.decode s x.p).snd))]))) (.br (bif decide ((↑(Utf8.decode s x.p).fst : Int) < 
    (48 : Int)) then true else decide ((57 : Int) < (↑(Utf8.decode s x.p).fst : Int))) (.leaf (.mk .ret [.v (.string s), .v (.string (ByteArray.mk #[])), .v (.bool false), AV.its (0 : 
    Nat), .v (.bool false)] [some (Blk.sit s (x.p + (Utf8.decode s x.p).snd))])) (.leaf (.mk .normal [.v (.string s), .v (.string x.d), .sb x.n, AV.its (0 : Nat), .any] [some (Blk.sit 
    s (x.p + (Utf8.decode s x.p).snd))])))) (.leaf (.mk (.exit 0) [.v (.string s), .v (.string x.d), .sb x.n, AV.its (0 : Nat), .any] [some (Blk.sit s x.p)])) := by kernel_rfl
def endFm (s : ByteArray) : Out := ⟨.exit 0, [.any, .v (.string (bdS s)), .sb (ngB s), .any, .any], [none]⟩
def retFm : Out := ⟨.ret, [.any, .v (.string ⟨#[]⟩), .sb false, .any, .sb false], [none]⟩
open Classical in
noncomputable def OFm (s : ByteArray) : Out := if aD s then endFm s else retFm
theorem loopFm {s : ByteArray} (hs : s.size ≤ 1000000000) : ∀ x : XF, (x.p ≤ s.size ∧ ((x.p = 0 ∧ x.d = s ∧ x.n = false) ∨ (0 < x.p ∧ x.d = bdS s ∧ x.n = ngB s)) ∧ (∀ i, loS s ≤ i → i < x.p → isD (bN s i))) → LoopOK Tryd.prog Γm 0 54 lpFm (LSpec.at lvFm [] (SFm s x) (OFm s)) := by
  refine loop_at (S := SFm s) (O := fun _ => OFm s) (k := 0) (fun x => s.size - x.p) fun x hp => .of (noLoops (by kernel_rfl)) (rFm s x) ?_
  obtain ⟨p, d, n⟩ := x
  obtain ⟨h1, h2, h3⟩ := hp
  dsimp only at h1 h2 h3
  have hlb := bN_lt s p
  rcases Nat.lt_or_ge p s.size with hi | hi
  · by_cases hm : p = 0 ∧ bN s p = 45
    · obtain ⟨rfl, hb⟩ := hm
      have hng : ngB s = true := by unfold ngB; rw [hb, decide_eq_true hi]; rfl
      have hd := dec_asc (s := s) (p := 0) (by omega)
      have hlo : loS s = 1 := by unfold loS; rw [if_pos hng]
      repeat' (first | refine wC (by first | omega | (simp only [W1, cond_true, cond_false, hd, hb, Int.toNat_one]; first | done | omega)) ?_ | refine wT (by first | omega | (simp only [W1, cond_true, cond_false, hd, hb, Int.toNat_one]; first | done | omega)) ?_ | refine wF (by intro _h; first | omega | (simp only [W1, cond_true, cond_false, hd, hb, Int.toNat_one] at _h; first | done | omega)) ?_ | (refine wS ?_ ?_ <;> intro _h <;> simp only [W1, cond_true, cond_false, hd, hb, Int.toNat_one] at _h))
      all_goals simp only [W1, W2, owesN, owesX, owesR, cond_true, cond_false, hd, hb, Int.toNat_one]
      repeat' (first | apply And.intro | intro _hc)
      all_goals first | exact ⟨⟨1, bdS s, true⟩, ⟨.refl _, by (rw [bd_neg hng]; exact AV.le_refl _), leB rfl, .refl _, .refl _, trivial⟩, LeH.refl _, ⟨hi, .inr ⟨Nat.one_pos, rfl, hng.symm⟩, fun i a b => by dsimp only at b; omega⟩, by dsimp only; omega⟩ | exact AV.le_refl _ | exact AV.le_any _ | exact OLe.refl _ | exact OLe.none _ | exact LeH.refl _ | exact LeL.refl _ | exact AV.le.bs _ | exact AV.le.sb _ | omega | contradiction
    · by_cases hdg : isD (bN s p)
      · obtain ⟨g1, g2⟩ := hdg
        have hd := dec_asc (s := s) (p := p) (by omega)
        have hx : d = bdS s ∧ n = ngB s := by
          rcases h2 with ⟨rfl, rfl, rfl⟩ | ⟨_, h, h'⟩
          · have hng : ngB d = false := by unfold ngB; rw [decide_eq_false (show ¬ bN d 0 = 45 by omega), Bool.and_false]
            exact ⟨(bd_pos hng).symm, hng.symm⟩
          · exact ⟨h, h'⟩
        obtain ⟨rfl, rfl⟩ := hx
        have hnx : ∀ i, loS s ≤ i → i < p + 1 → isD (bN s i) := fun i a b => by
          rcases Nat.lt_or_ge i p with c | c
          · exact h3 i a c
          · obtain rfl : i = p := by omega
            exact ⟨g1, g2⟩
        repeat' (first | refine wC (by first | omega | (simp only [W1, cond_true, cond_false, hd]; first | done | omega)) ?_ | refine wT (by first | omega | (simp only [W1, cond_true, cond_false, hd]; first | done | omega)) ?_ | refine wF (by intro _h; first | omega | (simp only [W1, cond_true, cond_false, hd] at _h; first | done | omega)) ?_ | (refine wS ?_ ?_ <;> intro _h <;> simp only [W1, cond_true, cond_false, hd] at _h))
        all_goals simp only [W1, W2, owesN, owesX, owesR, cond_true, cond_false, hd]
        repeat' (first | apply And.intro | intro _hc)
        all_goals first | exact ⟨⟨p + 1, bdS s, ngB s⟩, LeL.refl _, LeH.refl _, ⟨hi, .inr ⟨Nat.succ_pos _, rfl, rfl⟩, hnx⟩, by dsimp only; omega⟩ | exact AV.le_refl _ | exact AV.le_any _ | exact OLe.refl _ | exact OLe.none _ | exact LeH.refl _ | exact LeL.refl _ | exact AV.le.bs _ | exact AV.le.sb _ | omega | contradiction
      · have hO : OFm s = retFm := by
          unfold OFm
          refine if_neg fun h => hdg (h p ?_ hi)
          unfold loS
          split
          · rename_i h
            unfold ngB at h
            simp at h
            rcases Nat.eq_zero_or_pos p with rfl | h
            · omega
            · exact h
          · omega
        rw [hO]
        have hr : (Utf8.decode s p).1 < 48 ∧ ¬ (p = 0 ∧ (Utf8.decode s p).1 = 45) ∨ 57 < (Utf8.decode s p).1 := by
          rcases Nat.lt_or_ge (bN s p) 128 with hb | hb
          · rw [dec_asc hb]
            dsimp only
            unfold isD at hdg
            omega
          · have := dec_high hb
            omega
        generalize Utf8.decode s p = dd at *
        by_cases hp0 : p = 0
        · subst hp0
          repeat' (first | refine wC (by first | omega | (simp only [W1, cond_true, cond_false]; first | done | omega)) ?_ | refine wT (by first | omega | (simp only [W1, cond_true, cond_false]; first | done | omega)) ?_ | refine wF (by intro _h; first | omega | (simp only [W1, cond_true, cond_false] at _h; first | done | omega)) ?_ | (refine wS ?_ ?_ <;> intro _h <;> simp only [W1, cond_true, cond_false] at _h))
          all_goals simp only [W1, W2, owesN, owesX, owesR, cond_true, cond_false]
          repeat' (first | apply And.intro | intro _hc)
          all_goals first | exact rfl | exact AV.le_refl _ | exact AV.le_any _ | exact OLe.refl _ | exact OLe.none _ | exact LeH.refl _ | exact LeL.refl _ | exact AV.le.bs _ | exact AV.le.sb _ | omega | contradiction
        · repeat' (first | refine wC (by first | omega | (simp only [W1, cond_true, cond_false]; first | done | omega)) ?_ | refine wT (by first | omega | (simp only [W1, cond_true, cond_false]; first | done | omega)) ?_ | refine wF (by intro _h; first | omega | (simp only [W1, cond_true, cond_false] at _h; first | done | omega)) ?_ | (refine wS ?_ ?_ <;> intro _h <;> simp only [W1, cond_true, cond_false] at _h))
          all_goals simp only [W1, W2, owesN, owesX, owesR, cond_true, cond_false]
          repeat' (first | apply And.intro | intro _hc)
          all_goals first | exact rfl | exact AV.le_refl _ | exact AV.le_any _ | exact OLe.refl _ | exact OLe.none _ | exact LeH.refl _ | exact LeL.refl _ | exact AV.le.bs _ | exact AV.le.sb _ | omega | contradiction
  · obtain rfl : p = s.size := by omega
    have hx : d = bdS s ∧ n = ngB s := by
      rcases h2 with ⟨hz, rfl, rfl⟩ | ⟨_, h, h'⟩
      · have hng : ngB d = false := by unfold ngB; rw [decide_eq_false (show ¬ 0 < d.size by omega), Bool.false_and]
        exact ⟨(bd_pos hng).symm, hng.symm⟩
      · exact ⟨h, h'⟩
    obtain ⟨rfl, rfl⟩ := hx
    have hO : OFm s = endFm s := if_pos h3
    rw [hO]
    repeat' (first | refine wC (by first | omega | (simp only [W1, cond_true, cond_false]; first | done | omega)) ?_ | refine wT (by first | omega | (simp only [W1, cond_true, cond_false]; first | done | omega)) ?_ | refine wF (by intro _h; first | omega | (simp only [W1, cond_true, cond_false] at _h; first | done | omega)) ?_ | (refine wS ?_ ?_ <;> intro _h <;> simp only [W1, cond_true, cond_false] at _h))
    all_goals simp only [W1, W2, owesN, owesX, owesR, cond_true, cond_false]
    repeat' (first | apply And.intro | intro _hc)
    all_goals first | exact rfl | exact AV.le_refl _ | exact AV.le_any _ | exact OLe.refl _ | exact OLe.none _ | exact LeH.refl _ | exact LeL.refl _ | exact AV.le.bs _ | exact AV.le.sb _ | omega | contradiction
theorem runFmE (s : ByteArray) : bodyE (P := Tryd.prog) (Γ := Γm) [] (fun _ => LSpec.at lvFm [] (SFm s ⟨0, s, false⟩) (endFm s)) false 54 [.tmp 2, .tmp 3, .tmp 4] (bodyOf Tryd.f113) [.v (.string s)] [] =
  Tree.chk (cl (LeL [.v (.string s), .v (.string s), .v (.bool false), AV.its (0 : Nat), .v (.bool false)] [.v (.string s), .v (.string s), .sb false, AV.its (0 : Nat), .any] ∧ LeH [some 
    (Blk.sit s (0 : Nat))] [some (Blk.sit s (0 : Nat))])) (.chk (bif !decide (bdS s = ByteArray.mk #[]) then decide ((0 : Int) < (↑(ByteArray.size (bdS s)) : Int)) else true) (.leaf 
    (Ans.mk (.tup [.v (.string (bif !decide (bdS s = ByteArray.mk #[]) then bif !bif !decide (bdS s = ByteArray.mk #[]) then decide (sbyte (bdS s) (Int.toNat (0 : Int)) = (48 : Int)) 
    else false then bdS s else bif decide (bdS s = ByteArray.mk #[(48 : UInt8)]) then bdS s else bdS s else bdS s)), .sb (bif !decide (bdS s = ByteArray.mk #[]) then bif !bif !decide 
    (bdS s = ByteArray.mk #[]) then decide (sbyte (bdS s) (Int.toNat (0 : Int)) = (48 : Int)) else false then ngB s else bif decide (bdS s = ByteArray.mk #[(48 : UInt8)]) then ngB s 
    else ngB s else ngB s), .sb (bif !decide (bdS s = ByteArray.mk #[]) then bif !bif !decide (bdS s = ByteArray.mk #[]) then decide (sbyte (bdS s) (Int.toNat (0 : Int)) = (48 : Int)) 
    else false then true else bif decide (bdS s = ByteArray.mk #[(48 : UInt8)]) then !ngB s else false else false)]) []))) := by kernel_rfl
theorem runFmR (s : ByteArray) : bodyE (P := Tryd.prog) (Γ := Γm) [] (fun _ => LSpec.at lvFm [] (SFm s ⟨0, s, false⟩) retFm) false 54 [.tmp 2, .tmp 3, .tmp 4] (bodyOf Tryd.f113) [.v (.string s)] [] =
  Tree.chk (cl (LeL [.v (.string s), .v (.string s), .v (.bool false), AV.its (0 : Nat), .v (.bool false)] [.v (.string s), .v (.string s), .sb false, AV.its (0 : Nat), .any] ∧ LeH [some 
    (Blk.sit s (0 : Nat))] [some (Blk.sit s (0 : Nat))])) (.leaf (Ans.mk (.tup [.v (.string (ByteArray.mk #[])), .sb false, .sb false]) [])) := by kernel_rfl
end Go.Eng.TA

namespace Go.Eng.TA
open Go Go.Eng Go.Eng.M Go.Lib Go.Proofs
noncomputable def fmB (s : ByteArray) : Bool := cl (aD s ∧ 0 < (bdS s).size ∧ (bN (bdS s) 0 ≠ 48 ∨ ((bdS s).size = 1 ∧ ngB s = false)))
open Classical in
noncomputable def fmD (s : ByteArray) : ByteArray := if aD s then bdS s else ⟨#[]⟩
open Classical in
noncomputable def fmN (s : ByteArray) : Bool := if aD s then ngB s else false
noncomputable def fmV (s : ByteArray) : AV := .tup [.v (.string (fmD s)), .sb (fmN s), .sb (fmB s)]
theorem emp_size {s : ByteArray} : (s = ⟨#[]⟩) ↔ s.size = 0 := ⟨fun h => by rw [h]; rfl, fun h => bN_eq (by rw [h]; rfl) (fun j hj => by omega)⟩
theorem zero_size {s : ByteArray} : (s = ⟨#[48]⟩) ↔ s.size = 1 ∧ bN s 0 = 48 := ⟨fun h => by rw [h]; exact ⟨rfl, rfl⟩, fun ⟨h1, h2⟩ => bN_eq (by rw [h1]; rfl) (fun j hj => by
  obtain rfl : j = 0 := by omega
  rw [h2]; rfl)⟩
theorem okE (z b : Nat) (n : Bool) : (!decide (z = 0) && (!(!decide (z = 0) && decide ((b : Int) = 48)) || decide (z = 1 ∧ b = 48) && !n)) = decide (0 < z ∧ (b ≠ 48 ∨ (z = 1 ∧ n = false))) := by
  have h48 : ((b : Int) = 48) ↔ b = 48 := by omega
  simp only [h48]
  cases n <;> by_cases h0 : z = 0 <;> by_cases h1 : z = 1 <;> by_cases h2 : b = 48 <;> simp [h0, h1, h2] <;> omega
theorem ansForm {s : ByteArray} (hs : s.size ≤ 1000000000) : Answers Tryd.prog Γm 113 [.v (.string s)] [] (fmV s) [] [] := by
  have hl := loopFm hs ⟨0, s, false⟩ ⟨Nat.zero_le _, .inl ⟨rfl, rfl, rfl⟩, fun i a b => absurd b (Nat.not_lt_zero _)⟩
  unfold OFm at hl
  unfold fmV fmD fmN
  by_cases ha : aD s
  · rw [if_pos ha] at hl
    rw [if_pos ha, if_pos ha]
    refine answers (fn := Tryd.f113) (c := bodyOf Tryd.f113) (ntmps := 54) (results := [.tmp 2, .tmp 3, .tmp 4]) [] (fun _ => LSpec.at lvFm [] (SFm s ⟨0, s, false⟩) (endFm s)) false Tryd.func113 (by kernel_rfl) (by kernel_rfl) (by kernel_rfl) (by kernel_rfl) (by simp) rfl (oneLoop (b := lpFm) (by kernel_rfl) hl) <| Meets.of (runFmE s) <| ?_
    have hE := emp_size (s := bdS s)
    have hZ := zero_size (s := bdS s)
    have e0 : sbyte (bdS s) (Int.toNat 0) = (bN (bdS s) 0 : Int) := rfl
    have hF : fmB s = decide (0 < (bdS s).size ∧ (bN (bdS s) 0 ≠ 48 ∨ ((bdS s).size = 1 ∧ ngB s = false))) := by
      rw [Bool.eq_iff_iff, decide_eq_true_iff]
      exact ⟨fun h => (cl_iff.1 h).2, fun h => cl_iff.2 ⟨ha, h⟩⟩
    rw [hF]
    generalize bdS s = d at *
    have hC : (bif !decide (d.size = 0) then decide ((0 : Int) < (d.size : Int)) else true) = true := by
      by_cases h0 : d.size = 0
      · rw [decide_eq_true h0]; rfl
      · rw [decide_eq_false h0]; exact decide_eq_true (by omega)
    simp only [condSelf, hE, hZ, e0, hC]
    repeat' (first | refine wC (by first | omega | (simp only [W1, cond_true, cond_false]; first | done | omega)) ?_ | refine wT (by first | omega | (simp only [W1, cond_true, cond_false]; first | done | omega)) ?_ | refine wF (by intro _h; first | omega | (simp only [W1, cond_true, cond_false] at _h; first | done | omega)) ?_ | (refine wS ?_ ?_ <;> intro _h <;> simp only [W1, cond_true, cond_false] at _h))
    all_goals simp only [W1, W2, owesN, owesX, owesR, cond_true, cond_false]
    repeat' (first | apply And.intro | intro _hc)
    all_goals first | exact tup3 (leS (by simp)) (leB' (by simp)) (leB' (okE _ _ _)) | exact AV.le_refl _ | exact AV.le_any _ | exact OLe.refl _ | exact OLe.none _ | exact LeH.refl _ | exact LeL.refl _ | exact AV.le.bs _ | exact AV.le.sb _ | omega | contradiction
  · rw [if_neg ha] at hl
    rw [if_neg ha, if_neg ha]
    have hF : fmB s = false := by
      rw [Bool.eq_false_iff]
      exact fun h => ha (cl_iff.1 h).1
    rw [hF]
    refine answers (fn := Tryd.f113) (c := bodyOf Tryd.f113) (ntmps := 54) (results := [.tmp 2, .tmp 3, .tmp 4]) [] (fun _ => LSpec.at lvFm [] (SFm s ⟨0, s, false⟩) retFm) false Tryd.func113 (by kernel_rfl) (by kernel_rfl) (by kernel_rfl) (by kernel_rfl) (by simp) rfl (oneLoop (b := lpFm) (by kernel_rfl) hl) <| Meets.of (runFmR s) <| ?_
    repeat' (first | refine wC (by first | omega | (simp only [W1, cond_true, cond_false]; first | done | omega)) ?_ | refine wT (by first | omega | (simp only [W1, cond_true, cond_false]; first | done | omega)) ?_ | refine wF (by intro _h; first | omega | (simp only [W1, cond_true, cond_false] at _h; first | done | omega)) ?_ | (refine wS ?_ ?_ <;> intro _h <;> simp only [W1, cond_true, cond_false] at _h))
    all_goals simp only [W1, W2, owesN, owesX, owesR, cond_true, cond_false]
    repeat' (first | apply And.intro | intro _hc)
    all_goals first | exact AV.le_refl _ | exact AV.le_any _ | exact OLe.refl _ | exact OLe.none _ | exact LeH.refl _ | exact LeL.refl _ | exact AV.le.bs _ | exact AV.le.sb _ | omega | contradiction
noncomputable def kForm : CT Tryd.prog Γm := CT.oS 113 Tryd.func113 (by kernel_rfl) (by kernel_rfl) (fun s => s.size ≤ 1000000000) fmV (fun _ => []) (fun s h => ansForm h)
noncomputable abbrev lpDg : Code := loopOf (bodyOf Tryd.f114) 0
def SDg (s : ByteArray) (i : Nat) : List AV × Heap := ([.v (.string s), .v (.int .i64 (i : Int)), .any], [])
theorem rDg (s : ByteArray) (i : Nat) : roundE (P := Tryd.prog) (Γ := Γm) [] Lno false 0 0 lpDg [0, 3, 2] [] 33 (SDg s i).1 (SDg s i).2 =
  Tree.br (decide ((↑i : Int) < (↑(ByteArray.size s) : Int))) (.chk (decide ((0 : Int) ≤ (↑i : Int)) && decide ((↑i : Int) < (↑(ByteArray.size s) : Int)) && bif decide (sbyte s i < (48 : 
    Int)) then true else decide ((0 : Int) ≤ (↑i : Int)) && decide ((↑i : Int) < (↑(ByteArray.size s) : Int))) (.br (bif decide (sbyte s i < (48 : Int)) then true else decide ((57 : 
    Int) < sbyte s i)) (.leaf (.mk .ret [.v (.string s), .v (.int .i64 (↑i : Int)), .v (.bool false)] [])) (.leaf (.mk .normal [.v (.string s), .v (.int .i64 (IntKind.wrap IntKind.i64 
    ((↑i : Int) + (1 : Int)))), .any] [])))) (.leaf (.mk (.exit 0) [.v (.string s), .v (.int .i64 (↑i : Int)), .any] [])) := by kernel_rfl
def allD (s : ByteArray) : Prop := ∀ i, i < s.size → isD (bN s i)
open Classical in
noncomputable def ODg (s : ByteArray) : Out := if allD s then ⟨.exit 0, [.v (.string s), .any, .any], []⟩ else ⟨.ret, [.any, .any, .sb false], []⟩
theorem loopDg {s : ByteArray} (hs : s.size ≤ 1000000000) : ∀ i : Nat, (i ≤ s.size ∧ ∀ j, j < i → isD (bN s j)) → LoopOK Tryd.prog Γm 0 33 lpDg (LSpec.at [0, 3, 2] [] (SDg s i) (ODg s)) := by
  refine loop_at (S := SDg s) (O := fun _ => ODg s) (k := 0) (fun i => s.size - i) fun i hp => .of (noLoops (by kernel_rfl)) (rDg s i) ?_
  obtain ⟨h1, h3⟩ := hp
  have hb : sbyte s i = (bN s i : Int) := rfl
  simp only [hb]
  rcases Nat.lt_or_ge i s.size with hi | hi
  · by_cases hd : isD (bN s i)
    · obtain ⟨g1, g2⟩ := hd
      have hnx : ∀ j, j < i + 1 → isD (bN s j) := fun j b => by
        rcases Nat.lt_or_ge j i with c | c
        · exact h3 j c
        · obtain rfl : j = i := by omega
          exact ⟨g1, g2⟩
      repeat' (first | refine wC (by first | omega | (simp only [W1, cond_true, cond_false, wrapUpN (show i ≤ 10000000000 by omega)]; first | done | omega)) ?_ | refine wT (by first | omega | (simp only [W1, cond_true, cond_false, wrapUpN (show i ≤ 10000000000 by omega)]; first | done | omega)) ?_ | refine wF (by intro _h; first | omega | (simp only [W1, cond_true, cond_false, wrapUpN (show i ≤ 10000000000 by omega)] at _h; first | done | omega)) ?_ | (refine wS ?_ ?_ <;> intro _h <;> simp only [W1, cond_true, cond_false, wrapUpN (show i ≤ 10000000000 by omega)] at _h))
      all_goals simp only [W1, W2, owesN, owesX, owesR, cond_true, cond_false, wrapUpN (show i ≤ 10000000000 by omega)]
      repeat' (first | apply And.intro | intro _hc)
      all_goals first | exact ⟨i + 1, LeL.refl _, LeH.refl _, ⟨hi, hnx⟩, by omega⟩ | exact AV.le_refl _ | exact AV.le_any _ | exact OLe.refl _ | exact OLe.none _ | exact LeH.refl _ | exact LeL.refl _ | exact AV.le.bs _ | exact AV.le.sb _ | omega | contradiction
    · have hO : ODg s = ⟨.ret, [.any, .any, .sb false], []⟩ := if_neg fun h => hd (h i hi)
      rw [hO]
      have hr : bN s i < 48 ∨ 57 < bN s i := by unfold isD at hd; omega
      repeat' (first | refine wC (by first | omega | (simp only [W1, cond_true, cond_false]; first | done | omega)) ?_ | refine wT (by first | omega | (simp only [W1, cond_true, cond_false]; first | done | omega)) ?_ | refine wF (by intro _h; first | omega | (simp only [W1, cond_true, cond_false] at _h; first | done | omega)) ?_ | (refine wS ?_ ?_ <;> intro _h <;> simp only [W1, cond_true, cond_false] at _h))
      all_goals simp only [W1, W2, owesN, owesX, owesR, cond_true, cond_false]
      repeat' (first | apply And.intro | intro _hc)
      all_goals first | exact rfl | exact AV.le_refl _ | exact AV.le_any _ | exact OLe.refl _ | exact OLe.none _ | exact LeH.refl _ | exact LeL.refl _ | exact AV.le.bs _ | exact AV.le.sb _ | omega | contradiction
  · have hO : ODg s = ⟨.exit 0, [.v (.string s), .any, .any], []⟩ := if_pos fun j hj => h3 j (by omega)
    rw [hO]
    repeat' (first | refine wC (by first | omega | (simp only [W1, cond_true, cond_false]; first | done | omega)) ?_ | refine wT (by first | omega | (simp only [W1, cond_true, cond_false]; first | done | omega)) ?_ | refine wF (by intro _h; first | omega | (simp only [W1, cond_true, cond_false] at _h; first | done | omega)) ?_ | (refine wS ?_ ?_ <;> intro _h <;> simp only [W1, cond_true, cond_false] at _h))
    all_goals simp only [W1, W2, owesN, owesX, owesR, cond_true, cond_false]
    repeat' (first | apply And.intro | intro _hc)
    all_goals first | exact rfl | exact AV.le_refl _ | exact AV.le_any _ | exact OLe.refl _ | exact OLe.none _ | exact LeH.refl _ | exact LeL.refl _ | exact AV.le.bs _ | exact AV.le.sb _ | omega | contradiction
noncomputable def dgB (s : ByteArray) : Bool := cl (allD s ∧ (s.size = 1 ∨ (1 < s.size ∧ bN s 0 ≠ 48)))
theorem runDgE (s : ByteArray) : bodyE (P := Tryd.prog) (Γ := Γm) [] (fun _ => LSpec.at [0, 3, 2] [] (SDg s 0) ⟨.exit 0, [.v (.string s), .any, .any], []⟩) false 33 [.tmp 2] (bodyOf Tryd.f114) [.v (.string s)] [] =
  Tree.chk (cl (LeL [.v (.string s), .v (.int .i64 (0 : Int)), .v (.bool false)] [.v (.string s), .v (.int .i64 (↑(0 : Nat) : Int)), .any] ∧ LeH [] [])) (.chk (bif decide ((↑(ByteArray.size 
    s) : Int) = (1 : Int)) then true else bif decide ((1 : Int) < (↑(ByteArray.size s) : Int)) then decide ((0 : Int) < (↑(ByteArray.size s) : Int)) else true) (.leaf (Ans.mk (.sb (bif 
    decide ((↑(ByteArray.size s) : Int) = (1 : Int)) then true else bif decide ((1 : Int) < (↑(ByteArray.size s) : Int)) then !decide (sbyte s (Int.toNat (0 : Int)) = (48 : Int)) else 
    false)) []))) := by kernel_rfl
theorem runDgR (s : ByteArray) : bodyE (P := Tryd.prog) (Γ := Γm) [] (fun _ => LSpec.at [0, 3, 2] [] (SDg s 0) ⟨.ret, [.any, .any, .sb false], []⟩) false 33 [.tmp 2] (bodyOf Tryd.f114) [.v (.string s)] [] =
  Tree.chk (cl (LeL [.v (.string s), .v (.int .i64 (0 : Int)), .v (.bool false)] [.v (.string s), .v (.int .i64 (↑(0 : Nat) : Int)), .any] ∧ LeH [] [])) (.leaf (Ans.mk (.sb false) [])) := by kernel_rfl
theorem dgE (z b : Nat) : (decide ((z : Int) = 1) || decide (1 < (z : Int)) && !decide ((b : Int) = 48)) = decide (z = 1 ∨ (1 < z ∧ b ≠ 48)) := by
  have h48 : ((b : Int) = 48) ↔ b = 48 := by omega
  have h1 : ((z : Int) = 1) ↔ z = 1 := by omega
  have h2 : (1 < (z : Int)) ↔ 1 < z := by omega
  simp only [h48, h1, h2]
  by_cases h1 : z = 1 <;> by_cases h2 : 1 < z <;> by_cases h3 : b = 48 <;> simp [h1, h2, h3]
theorem ansDg {s : ByteArray} (hs : s.size ≤ 1000000000) : Answers Tryd.prog Γm 114 [.v (.string s)] [] (.sb (dgB s)) [] [] := by
  have hl := loopDg hs 0 ⟨Nat.zero_le _, fun i a => absurd a (Nat.not_lt_zero _)⟩
  unfold ODg at hl
  have e0 : sbyte s (Int.toNat 0) = (bN s 0 : Int) := rfl
  by_cases ha : allD s
  · rw [if_pos ha] at hl
    refine answers (fn := Tryd.f114) (c := bodyOf Tryd.f114) (ntmps := 33) (results := [.tmp 2]) [] (fun _ => LSpec.at [0, 3, 2] [] (SDg s 0) ⟨.exit 0, [.v (.string s), .any, .any], []⟩) false Tryd.func114 (by kernel_rfl) (by kernel_rfl) (by kernel_rfl) (by kernel_rfl) (by simp) rfl (oneLoop (b := lpDg) (by kernel_rfl) hl) <| Meets.of (runDgE s) <| ?_
    have hF : dgB s = decide (s.size = 1 ∨ (1 < s.size ∧ bN s 0 ≠ 48)) := by
      rw [Bool.eq_iff_iff, decide_eq_true_iff]
      exact ⟨fun h => (cl_iff.1 h).2, fun h => cl_iff.2 ⟨ha, h⟩⟩
    rw [hF]
    simp only [e0]
    have hC : (bif decide ((s.size : Int) = 1) then true else bif decide ((1 : Int) < (s.size : Int)) then decide ((0 : Int) < (s.size : Int)) else true) = true := by
      by_cases h1 : (1 : Int) < (s.size : Int)
      · rw [decide_eq_true h1, decide_eq_true (show (0 : Int) < (s.size : Int) by omega)]; simp
      · rw [decide_eq_false h1]; simp
    simp only [hC]
    repeat' (first | refine wC (by first | omega | (simp only [W1, cond_true, cond_false]; first | done | omega)) ?_ | refine wT (by first | omega | (simp only [W1, cond_true, cond_false]; first | done | omega)) ?_ | refine wF (by intro _h; first | omega | (simp only [W1, cond_true, cond_false] at _h; first | done | omega)) ?_ | (refine wS ?_ ?_ <;> intro _h <;> simp only [W1, cond_true, cond_false] at _h))
    all_goals simp only [W1, W2, owesN, owesX, owesR, cond_true, cond_false]
    repeat' (first | apply And.intro | intro _hc)
    all_goals first | exact leB' (dgE _ _) | exact AV.le_refl _ | exact AV.le_any _ | exact OLe.refl _ | exact OLe.none _ | exact LeH.refl _ | exact LeL.refl _ | exact AV.le.bs _ | exact AV.le.sb _ | omega | contradiction
  · rw [if_neg ha] at hl
    have hF : dgB s = false := by
      rw [Bool.eq_false_iff]
      exact fun h => ha (cl_iff.1 h).1
    rw [hF]
    refine answers (fn := Tryd.f114) (c := bodyOf Tryd.f114) (ntmps := 33) (results := [.tmp 2]) [] (fun _ => LSpec.at [0, 3, 2] [] (SDg s 0) ⟨.ret, [.any, .any, .sb false], []⟩) false Tryd.func114 (by kernel_rfl) (by kernel_rfl) (by kernel_rfl) (by kernel_rfl) (by simp) rfl (oneLoop (b := lpDg) (by kernel_rfl) hl) <| Meets.of (runDgR s) <| ?_
    repeat' (first | refine wC (by first | omega | (simp only [W1, cond_true, cond_false]; first | done | omega)) ?_ | refine wT (by first | omega | (simp only [W1, cond_true, cond_false]; first | done | omega)) ?_ | refine wF (by intro _h; first | omega | (simp only [W1, cond_true, cond_false] at _h; first | done | omega)) ?_ | (refine wS ?_ ?_ <;> intro _h <;> simp only [W1, cond_true, cond_false] at _h))
    all_goals simp only [W1, W2, owesN, owesX, owesR, cond_true, cond_false]
    repeat' (first | apply And.intro | intro _hc)
    all_goals first | exact AV.le_refl _ | exact AV.le_any _ | exact OLe.refl _ | exact OLe.none _ | exact LeH.refl _ | exact LeL.refl _ | exact AV.le.bs _ | exact AV.le.sb _ | omega | contradiction
noncomputable def kDg : CT Tryd.prog Γm := CT.oS 114 Tryd.func114 (by kernel_rfl) (by kernel_rfl) (fun s => s.size ≤ 1000000000) (fun s => .sb (dgB s)) (fun _ => []) (fun s h => ansDg h)
end Go.Eng.TA

namespace Go.Eng.TA
open Go Go.Eng Go.Eng.M Go.Lib Go.Proofs
def vN (d : ByteArray) : Nat → Nat
  | 0 => 0
  | q + 1 => 10 * vN d q + (bN d q - 48)
theorem vN_le {d : ByteArray} {p : Nat} : ∀ {q : Nat}, p ≤ q → vN d p ≤ vN d q := by
  intro q
  induction q with
  | zero => intro h; rw [Nat.le_zero.1 h]; exact Nat.le_refl _
  | succ q ih =>
    intro h
    rcases Nat.lt_or_ge p (q + 1) with h1 | h1
    · have := ih (by omega)
      rw [vN]; omega
    · rw [show p = q + 1 by omega]; exact Nat.le_refl _
noncomputable abbrev lpRe : Code := loopOf (bodyOf Tryd.f91) 0
abbrev lvRe : List Nat := [1, 2, 9, 11, 24, 6, 7]
def SRe (d : ByteArray) (lo hi : Int) (n : Bool) (p : Nat) : List AV × Heap := ([.v (.int .i64 lo), .v (.int .i64 hi), .sb n, .v (.int .i64 (-(vN d p : Int))), .its 0, .any, .any], [some (.sit d p)])
theorem rRe (d : ByteArray) (lo hi : Int) (n : Bool) (p : Nat) : roundE (P := Tryd.prog) (Γ := Γm) [] Lno false 0 0 lpRe lvRe [] 59 (SRe d lo hi n p).1 (SRe d lo hi n p).2 =
  Tree.br (decide (p < ByteArray.size d)) (.chk true (.br (bif decide (-(↑(vN d p) : Int) < IntKind.wrap IntKind.i64 (Int.tdiv (IntKind.wrap IntKind.i64 ((-9223372036854775808 : Int) + 
    IntKind.wrap IntKind.i64 (IntKind.wrap IntKind.i32 ((↑(Utf8.decode d p).fst : Int) - (48 : Int))))) (10 : Int))) then true else decide (IntKind.wrap IntKind.i64 (-(↑(vN d p) : Int) 
    * (10 : Int)) < IntKind.wrap IntKind.i64 ((-9223372036854775808 : Int) + IntKind.wrap IntKind.i64 (IntKind.wrap IntKind.i32 ((↑(Utf8.decode d p).fst : Int) - (48 : Int)))))) (.leaf 
    (.mk .ret [.v (.int .i64 lo), .v (.int .i64 hi), .sb n, .v (.int .i64 (-(↑(vN d p) : Int))), AV.its (0 : Nat), .v (.int .i64 (0 : Int)), .v (.int .i64 (10 : Int))] [some (Blk.sit d 
    (p + (Utf8.decode d p).snd))])) (.leaf (.mk .normal [.v (.int .i64 lo), .v (.int .i64 hi), .sb n, .v (.int .i64 (IntKind.wrap IntKind.i64 (IntKind.wrap IntKind.i64 (-(↑(vN d p) : 
    Int) * (10 : Int)) - IntKind.wrap IntKind.i64 (IntKind.wrap IntKind.i32 ((↑(Utf8.decode d p).fst : Int) - (48 : Int)))))), AV.its (0 : Nat), .any, .any] [some (Blk.sit d (p + 
    (Utf8.decode d p).snd))])))) (.leaf (.mk (.exit 0) [.v (.int .i64 lo), .v (.int .i64 hi), .sb n, .v (.int .i64 (-(↑(vN d p) : Int))), AV.its (0 : Nat), .any, .any] [some (Blk.sit d 
    p)])) := by kernel_rfl
noncomputable abbrev lpRr : Code := loopOf (bodyOf Tryd.f93) 0
abbrev lvRr : List Nat := [1, 2, 8, 10, 11, 12]
def SRr (d : ByteArray) (lo hi : Int) (n : Bool) (i : Nat) : List AV × Heap := ([.v (.int .i64 lo), .v (.int .i64 hi), .v (.string d), .sb n, .v (.int .i64 (if n then -(vN d i : Int) else (vN d i : Int))), .v (.int .i64 (i : Int))], [])
theorem rRr (d : ByteArray) (lo hi : Int) (n : Bool) (i : Nat) : roundE (P := Tryd.prog) (Γ := Γm) [] Lno false 0 0 lpRr lvRr [] 84 (SRr d lo hi n i).1 (SRr d lo hi n i).2 =
  Tree.br (decide ((↑i : Int) < (↑(ByteArray.size d) : Int))) (.br n (.chk (decide ((0 : Int) ≤ (↑i : Int)) && decide ((↑i : Int) < (↑(ByteArray.size d) : Int))) (.leaf (.mk .normal [.v 
    (.int .i64 lo), .v (.int .i64 hi), .v (.string d), .sb n, .v (.int .i64 (IntKind.wrap IntKind.i64 (IntKind.wrap IntKind.i64 ((if n = true then -(↑(vN d i) : Int) else (↑(vN d i) : 
    Int)) * (10 : Int)) - IntKind.wrap IntKind.i64 (IntKind.wrap IntKind.u8 (sbyte d i - (48 : Int)))))), .v (.int .i64 (IntKind.wrap IntKind.i64 ((↑i : Int) + (1 : Int))))] []))) 
    (.chk (decide ((0 : Int) ≤ (↑i : Int)) && decide ((↑i : Int) < (↑(ByteArray.size d) : Int))) (.leaf (.mk .normal [.v (.int .i64 lo), .v (.int .i64 hi), .v (.string d), .sb n, .v 
    (.int .i64 (IntKind.wrap IntKind.i64 (IntKind.wrap IntKind.i64 ((if n = true then -(↑(vN d i) : Int) else (↑(vN d i) : Int)) * (10 : Int)) + IntKind.wrap IntKind.i64 (IntKind.wrap 
    IntKind.u8 (sbyte d i - (48 : Int)))))), .v (.int .i64 (IntKind.wrap IntKind.i64 ((↑i : Int) + (1 : Int))))] [])))) (.leaf (.mk (.exit 0) [.v (.int .i64 lo), .v (.int .i64 hi), .v 
    (.string d), .sb n, .v (.int .i64 (if n = true then -(↑(vN d i) : Int) else (↑(vN d i) : Int))), .v (.int .i64 (↑i : Int))] [])) := by kernel_rfl
theorem runRr (s : ByteArray) (lo hi : Int) : bodyE (P := Tryd.prog) (Γ := Γm) [kDg] Lno false 84 [.tmp 6, .tmp 7] (bodyOf Tryd.f93) [.v (.string s), .v (.int .i64 lo), .v (.int .i64 hi)] [] =
  Tree.chk (bif decide ((0 : Int) < (↑(ByteArray.size s) : Int)) then decide ((0 : Int) < (↑(ByteArray.size s) : Int)) else true) (.br (bif decide ((0 : Int) < (↑(ByteArray.size s) : Int)) 
    then decide (sbyte s (Int.toNat (0 : Int)) = (45 : Int)) else false) (.chk (decide ((1 : Int) ≤ (↑(ByteArray.size s) : Int)) && decide ((↑(ByteArray.size s) : Int) ≤ 
    (↑(ByteArray.size s) : Int))) (.chk (cl (ByteArray.size (ByteArray.extract s (Int.toNat (1 : Int)) (ByteArray.size s)) ≤ (1000000000 : Nat) ∧ LeL [.v (.string (ByteArray.extract s 
    (Int.toNat (1 : Int)) (ByteArray.size s)))] [.v (.string (ByteArray.extract s (Int.toNat (1 : Int)) (ByteArray.size s)))] ∧ LeH [] [])) (.br (bif !dgB (ByteArray.extract s 
    (Int.toNat (1 : Int)) (ByteArray.size s)) then true else bif bif decide ((0 : Int) < (↑(ByteArray.size s) : Int)) then decide (sbyte s (Int.toNat (0 : Int)) = (45 : Int)) else 
    false then decide (ByteArray.extract s (Int.toNat (1 : Int)) (ByteArray.size s) = ByteArray.mk #[(48 : UInt8)]) else false) (.leaf (Ans.mk (.tup [.v (.int .i64 (0 : Int)), .v (.int 
    .i64 (11 : Int))]) [])) (.br (bif decide ((↑(19 : Nat) : Int) < (↑(ByteArray.size (ByteArray.extract s (Int.toNat (1 : Int)) (ByteArray.size s))) : Int)) then true else bif decide 
    ((↑(ByteArray.size (ByteArray.extract s (Int.toNat (1 : Int)) (ByteArray.size s))) : Int) = (↑(19 : Nat) : Int)) then !(Op.bytesLess (ByteArray.extract s (Int.toNat (1 : Int)) 
    (Int.toNat (↑(ByteArray.size s) : Int))).data.toList (ByteArray.mk #[(57 : UInt8), (50 : UInt8), (50 : UInt8), (51 : UInt8), (51 : UInt8), (55 : UInt8), (50 : UInt8), (48 : UInt8), 
    (51 : UInt8), (54 : UInt8), (56 : UInt8), (53 : UInt8), (52 : UInt8), (55 : UInt8), (55 : UInt8), (53 : UInt8), (56 : UInt8), (48 : UInt8), (56 : UInt8)]).data.toList || decide 
    (ByteArray.extract s (Int.toNat (1 : Int)) (ByteArray.size s) = ByteArray.mk #[(57 : UInt8), (50 : UInt8), (50 : UInt8), (51 : UInt8), (51 : UInt8), (55 : UInt8), (50 : UInt8), (48 
    : UInt8), (51 : UInt8), (54 : UInt8), (56 : UInt8), (53 : UInt8), (52 : UInt8), (55 : UInt8), (55 : UInt8), (53 : UInt8), (56 : UInt8), (48 : UInt8), (56 : UInt8)])) else false) 
    (.leaf (Ans.mk (.tup [.v (.int .i64 (0 : Int)), .v (.int .i64 (10 : Int))]) [])) .fail)))) (.chk (cl (ByteArray.size s ≤ (1000000000 : Nat) ∧ LeL [.v (.string s)] [.v (.string s)] 
    ∧ LeH [] [])) (.br (bif !dgB s then true else bif bif decide ((0 : Int) < (↑(ByteArray.size s) : Int)) then decide (sbyte s (Int.toNat (0 : Int)) = (45 : Int)) else false then 
    decide (s = ByteArray.mk #[(48 : UInt8)]) else false) (.leaf (Ans.mk (.tup [.v (.int .i64 (0 : Int)), .v (.int .i64 (11 : Int))]) [])) (.br (bif decide ((↑(19 : Nat) : Int) < 
    (↑(ByteArray.size s) : Int)) then true else bif decide ((↑(ByteArray.size s) : Int) = (↑(19 : Nat) : Int)) then !(Op.bytesLess s.data.toList (ByteArray.mk #[(57 : UInt8), (50 : 
    UInt8), (50 : UInt8), (51 : UInt8), (51 : UInt8), (55 : UInt8), (50 : UInt8), (48 : UInt8), (51 : UInt8), (54 : UInt8), (56 : UInt8), (53 : UInt8), (52 : UInt8), (55 : UInt8), (55 
    : UInt8), (53 : UInt8), (56 : UInt8), (48 : UInt8), (55 : UInt8)]).data.toList || decide (s = ByteArray.mk #[(57 : UInt8), (50 : UInt8), (50 : UInt8), (51 : UInt8), (51 : UInt8), 
    (55 : UInt8), (50 : UInt8), (48 : UInt8), (51 : UInt8), (54 : UInt8), (56 : UInt8), (53 : UInt8), (52 : UInt8), (55 : UInt8), (55 : UInt8), (53 : UInt8), (56 : UInt8), (48 : 
    UInt8), (55 : UInt8)])) else false) (.leaf (Ans.mk (.tup [.v (.int .i64 (0 : Int)), .v (.int .i64 (10 : Int))]) [])) .fail)))) := by kernel_rfl
end Go.Eng.TA

namespace Go.Eng.TA
open Go Go.Eng Go.Eng.M Go.Lib Go.Proofs
theorem w32 {b : Nat} (h1 : 48 ≤ b) (h2 : b ≤ 57) : IntKind.wrap IntKind.i64 (IntKind.wrap IntKind.i32 ((b : Int) - (48 : Int))) = ((b - 48 : Nat) : Int) := by
  obtain rfl | rfl | rfl | rfl | rfl | rfl | rfl | rfl | rfl | rfl : b = 48 ∨ b = 49 ∨ b = 50 ∨ b = 51 ∨ b = 52 ∨ b = 53 ∨ b = 54 ∨ b = 55 ∨ b = 56 ∨ b = 57 := by omega
  all_goals decide +kernel
theorem w8 {b : Nat} (h1 : 48 ≤ b) (h2 : b ≤ 57) : IntKind.wrap IntKind.i64 (IntKind.wrap IntKind.u8 ((b : Int) - (48 : Int))) = ((b - 48 : Nat) : Int) := by
  obtain rfl | rfl | rfl | rfl | rfl | rfl | rfl | rfl | rfl | rfl : b = 48 ∨ b = 49 ∨ b = 50 ∨ b = 51 ∨ b = 52 ∨ b = 53 ∨ b = 54 ∨ b = 55 ∨ b = 56 ∨ b = 57 := by omega
  all_goals decide +kernel
theorem wq {k : Nat} (h : k ≤ 9) : IntKind.wrap IntKind.i64 (Int.tdiv ((-9223372036854775808 : Int) + (k : Int)) (10 : Int)) = -((9223372036854775808 - k) / 10 : Nat) := by
  obtain rfl | rfl | rfl | rfl | rfl | rfl | rfl | rfl | rfl | rfl : k = 0 ∨ k = 1 ∨ k = 2 ∨ k = 3 ∨ k = 4 ∨ k = 5 ∨ k = 6 ∨ k = 7 ∨ k = 8 ∨ k = 9 := by omega
  all_goals decide +kernel
theorem wmin {k : Nat} (h : k ≤ 9) : IntKind.wrap IntKind.i64 ((-9223372036854775808 : Int) + (k : Int)) = (-9223372036854775808 : Int) + (k : Int) := wrap64 (by omega) (by omega)
def retRe : Out := ⟨.ret, [.any, .any, .any, .any, .any, .v (.int .i64 0), .v (.int .i64 10)], [none]⟩
def endRe (d : ByteArray) (lo hi : Int) (n : Bool) : Out := ⟨.exit 0, [.v (.int .i64 lo), .v (.int .i64 hi), .sb n, .v (.int .i64 (-(vN d d.size : Int))), .any, .any, .any], [none]⟩
def ORe (d : ByteArray) (lo hi : Int) (n : Bool) : Out := if 9223372036854775808 < vN d d.size then retRe else endRe d lo hi n
theorem loopRe {d : ByteArray} {lo hi : Int} {n : Bool} (ha : allD d) (hs : d.size ≤ 1000000000) : ∀ p : Nat, (p ≤ d.size ∧ vN d p ≤ 9223372036854775808) → LoopOK Tryd.prog Γm 0 59 lpRe (LSpec.at lvRe [] (SRe d lo hi n p) (ORe d lo hi n)) := by
  refine loop_at (S := SRe d lo hi n) (O := fun _ => ORe d lo hi n) (k := 0) (fun p => d.size - p) fun p hp => .of (noLoops (by kernel_rfl)) (rRe d lo hi n p) ?_
  obtain ⟨h1, h2⟩ := hp
  rcases Nat.lt_or_ge p d.size with hi' | hi'
  · obtain ⟨g1, g2⟩ := ha p hi'
    have hd := dec_asc (s := d) (p := p) (by omega)
    have hv : vN d (p + 1) = 10 * vN d p + (bN d p - 48) := rfl
    have hm := vN_le (d := d) (p := p + 1) (q := d.size) hi'
    simp only [hd, w32 g1 g2, wq (show bN d p - 48 ≤ 9 by omega), wmin (show bN d p - 48 ≤ 9 by omega)]
    generalize hk : bN d p - 48 = k at *
    have hk9 : k ≤ 9 := by omega
    by_cases hq : (9223372036854775808 - k) / 10 < vN d p
    · have hO : ORe d lo hi n = retRe := if_pos (by omega)
      rw [hO]
      have c1 : decide (-(vN d p : Int) < -(((9223372036854775808 - k) / 10 : Nat) : Int)) = true := decide_eq_true (by omega)
      simp only [c1, cond_true]
      repeat' (first | refine wC (by first | omega | (simp only [W1, cond_true, cond_false]; first | done | omega)) ?_ | refine wT (by first | omega | (simp only [W1, cond_true, cond_false]; first | done | omega)) ?_ | refine wF (by intro _h; first | omega | (simp only [W1, cond_true, cond_false] at _h; first | done | omega)) ?_ | (refine wS ?_ ?_ <;> intro _h <;> simp only [W1, cond_true, cond_false] at _h))
      all_goals simp only [W1, W2, owesN, owesX, owesR, cond_true, cond_false]
      repeat' (first | apply And.intro | intro _hc)
      all_goals first | exact rfl | exact AV.le_refl _ | exact AV.le_any _ | exact OLe.refl _ | exact OLe.none _ | exact LeH.refl _ | exact LeL.refl _ | exact AV.le.bs _ | exact AV.le.sb _ | omega | contradiction
    · have hle : 10 * vN d p + k ≤ 9223372036854775808 := by omega
      have c1 : decide (-(vN d p : Int) < -(((9223372036854775808 - k) / 10 : Nat) : Int)) = false := decide_eq_false (by omega)
      have w1 : IntKind.wrap IntKind.i64 (-(vN d p : Int) * 10) = -(vN d p : Int) * 10 := wrap64 (by omega) (by omega)
      have c2 : decide (-(vN d p : Int) * 10 < (-9223372036854775808 : Int) + (k : Int)) = false := decide_eq_false (by omega)
      have w2 : IntKind.wrap IntKind.i64 (-(vN d p : Int) * 10 - (k : Int)) = -((vN d (p + 1) : Nat) : Int) := by rw [wrap64 (by omega) (by omega), hv]; omega
      simp only [c1, w1, c2, cond_false, w2]
      repeat' (first | refine wC (by first | omega | (simp only [W1, cond_true, cond_false]; first | done | omega)) ?_ | refine wT (by first | omega | (simp only [W1, cond_true, cond_false]; first | done | omega)) ?_ | refine wF (by intro _h; first | omega | (simp only [W1, cond_true, cond_false] at _h; first | done | omega)) ?_ | (refine wS ?_ ?_ <;> intro _h <;> simp only [W1, cond_true, cond_false] at _h))
      all_goals simp only [W1, W2, owesN, owesX, owesR, cond_true, cond_false]
      repeat' (first | apply And.intro | intro _hc)
      all_goals first | exact ⟨p + 1, LeL.refl _, LeH.refl _, ⟨hi', by rw [hv]; exact hle⟩, by omega⟩ | exact AV.le_refl _ | exact AV.le_any _ | exact OLe.refl _ | exact OLe.none _ | exact LeH.refl _ | exact LeL.refl _ | exact AV.le.bs _ | exact AV.le.sb _ | omega | contradiction
  · obtain rfl : p = d.size := by omega
    have hO : ORe d lo hi n = endRe d lo hi n := if_neg (by omega)
    rw [hO]
    repeat' (first | refine wC (by first | omega | (simp only [W1, cond_true, cond_false]; first | done | omega)) ?_ | refine wT (by first | omega | (simp only [W1, cond_true, cond_false]; first | done | omega)) ?_ | refine wF (by intro _h; first | omega | (simp only [W1, cond_true, cond_false] at _h; first | done | omega)) ?_ | (refine wS ?_ ?_ <;> intro _h <;> simp only [W1, cond_true, cond_false] at _h))
    all_goals simp only [W1, W2, owesN, owesX, owesR, cond_true, cond_false]
    repeat' (first | apply And.intro | intro _hc)
    all_goals first | exact rfl | exact AV.le_refl _ | exact AV.le_any _ | exact OLe.refl _ | exact OLe.none _ | exact LeH.refl _ | exact LeL.refl _ | exact AV.le.bs _ | exact AV.le.sb _ | omega | contradiction
def sgV (n : Bool) (v : Nat) : Int := if n then -(v : Int) else (v : Int)
def endRr (d : ByteArray) (lo hi : Int) (n : Bool) : Out := ⟨.exit 0, [.v (.int .i64 lo), .v (.int .i64 hi), .any, .any, .v (.int .i64 (sgV n (vN d d.size))), .any], []⟩
theorem loopRr {d : ByteArray} {lo hi : Int} {n : Bool} (ha : allD d) (hs : d.size ≤ 1000000000) (hv : vN d d.size ≤ if n then 9223372036854775808 else 9223372036854775807) : ∀ i : Nat, (i ≤ d.size) → LoopOK Tryd.prog Γm 0 84 lpRr (LSpec.at lvRr [] (SRr d lo hi n i) (endRr d lo hi n)) := by
  refine loop_at (S := SRr d lo hi n) (O := fun _ => endRr d lo hi n) (k := 0) (fun p => d.size - p) fun i h1 => .of (noLoops (by kernel_rfl)) (rRr d lo hi n i) ?_
  rcases Nat.lt_or_ge i d.size with hi' | hi'
  · obtain ⟨g1, g2⟩ := ha i hi'
    have hb : sbyte d i = (bN d i : Int) := rfl
    have hvs : vN d (i + 1) = 10 * vN d i + (bN d i - 48) := rfl
    have hm := vN_le (d := d) (p := i + 1) (q := d.size) hi'
    simp only [hb, w8 g1 g2]
    generalize hk : bN d i - 48 = k at *
    cases n with
    | true =>
      simp only [if_true] at hv ⊢
      have w1 : IntKind.wrap IntKind.i64 (-(vN d i : Int) * 10) = -(vN d i : Int) * 10 := wrap64 (by omega) (by omega)
      have w2 : IntKind.wrap IntKind.i64 (-(vN d i : Int) * 10 - (k : Int)) = -((vN d (i + 1) : Nat) : Int) := by rw [wrap64 (by omega) (by omega), hvs]; omega
      simp only [w1, w2]
      repeat' (first | refine wC (by first | omega | (simp only [W1, cond_true, cond_false, wrapUpN (show i ≤ 10000000000 by omega)]; first | done | omega)) ?_ | refine wT (by first | omega | (simp only [W1, cond_true, cond_false, wrapUpN (show i ≤ 10000000000 by omega)]; first | done | omega)) ?_ | refine wF (by intro _h; first | omega | (simp only [W1, cond_true, cond_false, wrapUpN (show i ≤ 10000000000 by omega)] at _h; first | done | omega)) ?_ | (refine wS ?_ ?_ <;> intro _h <;> simp only [W1, cond_true, cond_false, wrapUpN (show i ≤ 10000000000 by omega)] at _h))
      all_goals simp only [W1, W2, owesN, owesX, owesR, cond_true, cond_false, wrapUpN (show i ≤ 10000000000 by omega)]
      repeat' (first | apply And.intro | intro _hc)
      all_goals first | exact ⟨i + 1, LeL.refl _, LeH.refl _, hi', by omega⟩ | exact AV.le_refl _ | exact AV.le_any _ | exact OLe.refl _ | exact OLe.none _ | exact LeH.refl _ | exact LeL.refl _ | exact AV.le.bs _ | exact AV.le.sb _ | omega | contradiction
    | false =>
      simp only [Bool.false_eq_true, if_false] at hv ⊢
      have w1 : IntKind.wrap IntKind.i64 ((vN d i : Int) * 10) = (vN d i : Int) * 10 := wrap64 (by omega) (by omega)
      have w2 : IntKind.wrap IntKind.i64 ((vN d i : Int) * 10 + (k : Int)) = ((vN d (i + 1) : Nat) : Int) := by rw [wrap64 (by omega) (by omega), hvs]; omega
      simp only [w1, w2]
      repeat' (first | refine wC (by first | omega | (simp only [W1, cond_true, cond_false, wrapUpN (show i ≤ 10000000000 by omega)]; first | done | omega)) ?_ | refine wT (by first | omega | (simp only [W1, cond_true, cond_false, wrapUpN (show i ≤ 10000000000 by omega)]; first | done | omega)) ?_ | refine wF (by intro _h; first | omega | (simp only [W1, cond_true, cond_false, wrapUpN (show i ≤ 10000000000 by omega)] at _h; first | done | omega)) ?_ | (refine wS ?_ ?_ <;> intro _h <;> simp only [W1, cond_true, cond_false, wrapUpN (show i ≤ 10000000000 by omega)] at _h))
      all_goals simp only [W1, W2, owesN, owesX, owesR, cond_true, cond_false, wrapUpN (show i ≤ 10000000000 by omega)]
      repeat' (first | apply And.intro | intro _hc)
      all_goals first | exact ⟨i + 1, LeL.refl _, LeH.refl _, hi', by omega⟩ | exact AV.le_refl _ | exact AV.le_any _ | exact OLe.refl _ | exact OLe.none _ | exact LeH.refl _ | exact LeL.refl _ | exact AV.le.bs _ | exact AV.le.sb _ | omega | contradiction
  · obtain rfl : i = d.size := by omega
    repeat' (first | refine wC (by first | omega | (simp only [W1, cond_true, cond_false]; first | done | omega)) ?_ | refine wT (by first | omega | (simp only [W1, cond_true, cond_false]; first | done | omega)) ?_ | refine wF (by intro _h; first | omega | (simp only [W1, cond_true, cond_false] at _h; first | done | omega)) ?_ | (refine wS ?_ ?_ <;> intro _h <;> simp only [W1, cond_true, cond_false] at _h))
    all_goals simp only [W1, W2, owesN, owesX, owesR, cond_true, cond_false]
    repeat' (first | apply And.intro | intro _hc)
    all_goals first | exact rfl | exact AV.le_refl _ | exact AV.le_any _ | exact OLe.refl _ | exact OLe.none _ | exact LeH.refl _ | exact LeL.refl _ | exact AV.le.bs _ | exact AV.le.sb _ | omega | contradiction
end Go.Eng.TA

namespace Go.Eng.TA
open Go Go.Eng Go.Eng.M Go.Lib Go.Proofs
def vS (s : ByteArray) : Nat := vN (bdS s) (bdS s).size
def okV (s : ByteArray) : Bool := decide (vS s ≤ if ngB s then 9223372036854775808 else 9223372036854775807)
def inV (s : ByteArray) (lo hi : Int) : Bool := okV s && (decide (lo ≤ sgV (ngB s) (vS s)) && decide (sgV (ngB s) (vS s) ≤ hi))
noncomputable def rdE (s : ByteArray) (lo hi : Int) : Int := if fmB s then (if inV s lo hi then 0 else 10) else 11
noncomputable def rdN (s : ByteArray) (lo hi : Int) : Int := if fmB s then (if inV s lo hi then sgV (ngB s) (vS s) else 0) else 0
noncomputable def rdV (s : ByteArray) (lo hi : Int) : AV := .tup [.v (.int .i64 (rdN s lo hi)), .v (.int .i64 (rdE s lo hi))]
noncomputable abbrev TRe : List (CT Tryd.prog Γm) := [kForm, kWi]
theorem runRe0 (s : ByteArray) (lo hi : Int) : bodyE (P := Tryd.prog) (Γ := Γm) TRe Lno false 59 [.tmp 6, .tmp 7] (bodyOf Tryd.f91) [.v (.string s), .v (.int .i64 lo), .v (.int .i64 hi)] [] =
  Tree.chk (cl (ByteArray.size s ≤ (1000000000 : Nat) ∧ LeL [.v (.string s)] [.v (.string s)] ∧ LeH [] [])) (.br (!fmB s) (.leaf (Ans.mk (.tup [.v (.int .i64 (0 : Int)), .v (.int .i64 (11 : 
    Int))]) [])) .fail) := by kernel_rfl
theorem runRe1 (s : ByteArray) (lo hi : Int) : bodyE (P := Tryd.prog) (Γ := Γm) TRe (fun _ => LSpec.at lvRe [] (SRe (fmD s) lo hi (fmN s) 0) retRe) false 59 [.tmp 6, .tmp 7] (bodyOf Tryd.f91) [.v (.string s), .v (.int .i64 lo), .v (.int .i64 hi)] [] =
  Tree.chk (cl (ByteArray.size s ≤ (1000000000 : Nat) ∧ LeL [.v (.string s)] [.v (.string s)] ∧ LeH [] [])) (.br (!fmB s) (.leaf (Ans.mk (.tup [.v (.int .i64 (0 : Int)), .v (.int .i64 (11 : 
    Int))]) [])) (.chk (cl (LeL [.v (.int .i64 lo), .v (.int .i64 hi), .sb (fmN s), .v (.int .i64 (0 : Int)), AV.its (0 : Nat), .v (.int .i64 (0 : Int)), .v (.int .i64 (0 : Int))] [.v 
    (.int .i64 lo), .v (.int .i64 hi), .sb (fmN s), .v (.int .i64 (-(↑(0 : Nat) : Int))), AV.its (0 : Nat), .any, .any] ∧ LeH [some (Blk.sit (fmD s) (0 : Nat))] [some (Blk.sit (fmD s) 
    (0 : Nat))])) (.leaf (Ans.mk (.tup [.v (.int .i64 (0 : Int)), .v (.int .i64 (10 : Int))]) [])))) := by kernel_rfl
theorem runRe2 (s : ByteArray) (lo hi : Int) : bodyE (P := Tryd.prog) (Γ := Γm) TRe (fun _ => LSpec.at lvRe [] (SRe (fmD s) lo hi (fmN s) 0) (endRe (fmD s) lo hi (fmN s))) false 59 [.tmp 6, .tmp 7] (bodyOf Tryd.f91) [.v (.string s), .v (.int .i64 lo), .v (.int .i64 hi)] [] =
  Tree.chk (cl (ByteArray.size s ≤ (1000000000 : Nat) ∧ LeL [.v (.string s)] [.v (.string s)] ∧ LeH [] [])) (.br (!fmB s) (.leaf (Ans.mk (.tup [.v (.int .i64 (0 : Int)), .v (.int .i64 (11 : 
    Int))]) [])) (.chk (cl (LeL [.v (.int .i64 lo), .v (.int .i64 hi), .sb (fmN s), .v (.int .i64 (0 : Int)), AV.its (0 : Nat), .v (.int .i64 (0 : Int)), .v (.int .i64 (0 : Int))] [.v 
    (.int .i64 lo), .v (.int .i64 hi), .sb (fmN s), .v (.int .i64 (-(↑(0 : Nat) : Int))), AV.its (0 : Nat), .any, .any] ∧ LeH [some (Blk.sit (fmD s) (0 : Nat))] [some (Blk.sit (fmD s) 
    (0 : Nat))])) (.br (!fmN s) (.br (decide (-(↑(vN (fmD s) (ByteArray.size (fmD s))) : Int) = (-9223372036854775808 : Int))) (.leaf (Ans.mk (.tup [.v (.int .i64 (0 : Int)), .v (.int 
    .i64 (10 : Int))]) [])) (.br (!bif decide (lo ≤ IntKind.wrap IntKind.i64 ((0 : Int) - -(↑(vN (fmD s) (ByteArray.size (fmD s))) : Int))) then decide (IntKind.wrap IntKind.i64 ((0 : 
    Int) - -(↑(vN (fmD s) (ByteArray.size (fmD s))) : Int)) ≤ hi) else false) (.leaf (Ans.mk (.tup [.v (.int .i64 (0 : Int)), .v (.int .i64 (10 : Int))]) [])) (.leaf (Ans.mk (.tup [.v 
    (.int .i64 (IntKind.wrap IntKind.i64 ((0 : Int) - -(↑(vN (fmD s) (ByteArray.size (fmD s))) : Int)))), .v (.int .i64 (0 : Int))]) [])))) (.br (!bif decide (lo ≤ -(↑(vN (fmD s) 
    (ByteArray.size (fmD s))) : Int)) then decide (-(↑(vN (fmD s) (ByteArray.size (fmD s))) : Int) ≤ hi) else false) (.leaf (Ans.mk (.tup [.v (.int .i64 (0 : Int)), .v (.int .i64 (10 : 
    Int))]) [])) (.leaf (Ans.mk (.tup [.v (.int .i64 (-(↑(vN (fmD s) (ByteArray.size (fmD s))) : Int))), .v (.int .i64 (0 : Int))]) [])))))) := by kernel_rfl
theorem aD_all {s : ByteArray} : aD s ↔ allD (bdS s) := ⟨fun h i hi => by
    rw [bd_at hi]
    rw [bd_size] at hi
    exact h _ (by omega) (by omega), fun h i h1 h2 => by
    have h3 : i - loS s < (bdS s).size := by rw [bd_size]; omega
    have := h (i - loS s) h3
    rw [bd_at h3, show loS s + (i - loS s) = i by omega] at this
    exact this⟩
theorem bd_le {s : ByteArray} : (bdS s).size ≤ s.size := by rw [bd_size]; omega
theorem ansRe {s : ByteArray} {lo hi : Int} (hs : s.size ≤ 1000000000) : Answers Tryd.prog Γm 91 [.v (.string s), .v (.int .i64 lo), .v (.int .i64 hi)] [] (rdV s lo hi) [] [] := by
  unfold rdV rdN rdE
  cases hf : fmB s with
  | false =>
    simp only [Bool.false_eq_true, if_false]
    refine answers (fn := Tryd.f91) (c := bodyOf Tryd.f91) (ntmps := 59) (results := [.tmp 6, .tmp 7]) [kForm, kWi] (Lno) false Tryd.func91 (by kernel_rfl) (by kernel_rfl) (by kernel_rfl) (by kernel_rfl) (by simp) rfl (failOK fun _ _ _ => rfl) <| Meets.of (runRe0 s lo hi) <| ?_
    repeat' (first | refine wC (by first | omega | (simp only [W1, cond_true, cond_false, hf]; first | done | omega)) ?_ | refine wT (by first | omega | (simp only [W1, cond_true, cond_false, hf]; first | done | omega)) ?_ | refine wF (by intro _h; first | omega | (simp only [W1, cond_true, cond_false, hf] at _h; first | done | omega)) ?_ | (refine wS ?_ ?_ <;> intro _h <;> simp only [W1, cond_true, cond_false, hf] at _h))
    all_goals simp only [W1, W2, owesN, owesX, owesR, cond_true, cond_false, hf]
    repeat' (first | apply And.intro | intro _hc)
    all_goals first | exact AV.le_refl _ | exact AV.le_any _ | exact OLe.refl _ | exact OLe.none _ | exact LeH.refl _ | exact LeL.refl _ | exact AV.le.bs _ | exact AV.le.sb _ | omega | contradiction
  | true =>
    simp only [if_true]
    have ha : aD s := (cl_iff.1 hf).1
    have hD : fmD s = bdS s := if_pos ha
    have hN : fmN s = ngB s := if_pos ha
    have hl := loopRe (d := bdS s) (lo := lo) (hi := hi) (n := ngB s) (aD_all.1 ha) (Nat.le_trans bd_le hs) 0 ⟨Nat.zero_le _, Nat.zero_le _⟩
    unfold ORe at hl
    by_cases hq : 9223372036854775808 < vN (bdS s) (bdS s).size
    · rw [if_pos hq] at hl
      have hv0 : inV s lo hi = false := by
        unfold inV okV vS
        rw [decide_eq_false, Bool.false_and]
        split <;> omega
      rw [hv0]
      simp only [Bool.false_eq_true, if_false]
      refine answers (fn := Tryd.f91) (c := bodyOf Tryd.f91) (ntmps := 59) (results := [.tmp 6, .tmp 7]) [kForm, kWi] (fun _ => LSpec.at lvRe [] (SRe (fmD s) lo hi (fmN s) 0) retRe) false Tryd.func91 (by kernel_rfl) (by kernel_rfl) (by kernel_rfl) (by kernel_rfl) (by simp) rfl (oneLoop (b := lpRe) (by kernel_rfl) (by rw [hD, hN]; exact hl)) <| Meets.of (runRe1 s lo hi) <| ?_
      repeat' (first | refine wC (by first | omega | (simp only [W1, cond_true, cond_false, hf]; first | done | omega)) ?_ | refine wT (by first | omega | (simp only [W1, cond_true, cond_false, hf]; first | done | omega)) ?_ | refine wF (by intro _h; first | omega | (simp only [W1, cond_true, cond_false, hf] at _h; first | done | omega)) ?_ | (refine wS ?_ ?_ <;> intro _h <;> simp only [W1, cond_true, cond_false, hf] at _h))
      all_goals simp only [W1, W2, owesN, owesX, owesR, cond_true, cond_false, hf]
      repeat' (first | apply And.intro | intro _hc)
      all_goals first | exact AV.le_refl _ | exact AV.le_any _ | exact OLe.refl _ | exact OLe.none _ | exact LeH.refl _ | exact LeL.refl _ | exact AV.le.bs _ | exact AV.le.sb _ | omega | contradiction
    · rw [if_neg hq] at hl
      refine answers (fn := Tryd.f91) (c := bodyOf Tryd.f91) (ntmps := 59) (results := [.tmp 6, .tmp 7]) [kForm, kWi] (fun _ => LSpec.at lvRe [] (SRe (fmD s) lo hi (fmN s) 0) (endRe (fmD s) lo hi (fmN s))) false Tryd.func91 (by kernel_rfl) (by kernel_rfl) (by kernel_rfl) (by kernel_rfl) (by simp) rfl (oneLoop (b := lpRe) (by kernel_rfl) (by rw [hD, hN]; exact hl)) <| Meets.of (runRe2 s lo hi) <| ?_
      simp only [hD, hN]
      unfold inV okV vS sgV
      generalize vN (bdS s) (bdS s).size = V at *
      cases ngB s with
      | true =>
        have d1 : decide (V ≤ 9223372036854775808) = true := decide_eq_true (by omega)
        simp only [if_true, d1, Bool.true_and]
        cases h1 : decide (lo ≤ -(V : Int)) <;> cases h2 : decide (-(V : Int) ≤ hi)
        · repeat' (first | refine wC (by first | omega | (simp only [W1, cond_true, cond_false, h1, h2]; first | done | omega)) ?_ | refine wT (by first | omega | (simp only [W1, cond_true, cond_false, h1, h2]; first | done | omega)) ?_ | refine wF (by intro _h; first | omega | (simp only [W1, cond_true, cond_false, h1, h2] at _h; first | done | omega)) ?_ | (refine wS ?_ ?_ <;> intro _h <;> simp only [W1, cond_true, cond_false, h1, h2] at _h))
          all_goals simp only [W1, W2, owesN, owesX, owesR, cond_true, cond_false, h1, h2]
          repeat' (first | apply And.intro | intro _hc)
          all_goals first | exact tup2 (leI rfl) (leI rfl) | exact AV.le_refl _ | exact AV.le_any _ | exact OLe.refl _ | exact OLe.none _ | exact LeH.refl _ | exact LeL.refl _ | exact AV.le.bs _ | exact AV.le.sb _ | omega | contradiction
        · repeat' (first | refine wC (by first | omega | (simp only [W1, cond_true, cond_false, h1, h2]; first | done | omega)) ?_ | refine wT (by first | omega | (simp only [W1, cond_true, cond_false, h1, h2]; first | done | omega)) ?_ | refine wF (by intro _h; first | omega | (simp only [W1, cond_true, cond_false, h1, h2] at _h; first | done | omega)) ?_ | (refine wS ?_ ?_ <;> intro _h <;> simp only [W1, cond_true, cond_false, h1, h2] at _h))
          all_goals simp only [W1, W2, owesN, owesX, owesR, cond_true, cond_false, h1, h2]
          repeat' (first | apply And.intro | intro _hc)
          all_goals first | exact tup2 (leI rfl) (leI rfl) | exact AV.le_refl _ | exact AV.le_any _ | exact OLe.refl _ | exact OLe.none _ | exact LeH.refl _ | exact LeL.refl _ | exact AV.le.bs _ | exact AV.le.sb _ | omega | contradiction
        · repeat' (first | refine wC (by first | omega | (simp only [W1, cond_true, cond_false, h1, h2]; first | done | omega)) ?_ | refine wT (by first | omega | (simp only [W1, cond_true, cond_false, h1, h2]; first | done | omega)) ?_ | refine wF (by intro _h; first | omega | (simp only [W1, cond_true, cond_false, h1, h2] at _h; first | done | omega)) ?_ | (refine wS ?_ ?_ <;> intro _h <;> simp only [W1, cond_true, cond_false, h1, h2] at _h))
          all_goals simp only [W1, W2, owesN, owesX, owesR, cond_true, cond_false, h1, h2]
          repeat' (first | apply And.intro | intro _hc)
          all_goals first | exact tup2 (leI rfl) (leI rfl) | exact AV.le_refl _ | exact AV.le_any _ | exact OLe.refl _ | exact OLe.none _ | exact LeH.refl _ | exact LeL.refl _ | exact AV.le.bs _ | exact AV.le.sb _ | omega | contradiction
        · repeat' (first | refine wC (by first | omega | (simp only [W1, cond_true, cond_false, h1, h2]; first | done | omega)) ?_ | refine wT (by first | omega | (simp only [W1, cond_true, cond_false, h1, h2]; first | done | omega)) ?_ | refine wF (by intro _h; first | omega | (simp only [W1, cond_true, cond_false, h1, h2] at _h; first | done | omega)) ?_ | (refine wS ?_ ?_ <;> intro _h <;> simp only [W1, cond_true, cond_false, h1, h2] at _h))
          all_goals simp only [W1, W2, owesN, owesX, owesR, cond_true, cond_false, h1, h2]
          repeat' (first | apply And.intro | intro _hc)
          all_goals first | exact tup2 (leI rfl) (leI rfl) | exact AV.le_refl _ | exact AV.le_any _ | exact OLe.refl _ | exact OLe.none _ | exact LeH.refl _ | exact LeL.refl _ | exact AV.le.bs _ | exact AV.le.sb _ | omega | contradiction
      | false =>
        simp only [Bool.false_eq_true, if_false]
        by_cases hb : V = 9223372036854775808
        · have d1 : decide (V ≤ 9223372036854775807) = false := decide_eq_false (by omega)
          simp only [d1, Bool.false_and, Bool.false_eq_true, if_false]
          repeat' (first | refine wC (by first | omega | (simp only [W1, cond_true, cond_false]; first | done | omega)) ?_ | refine wT (by first | omega | (simp only [W1, cond_true, cond_false]; first | done | omega)) ?_ | refine wF (by intro _h; first | omega | (simp only [W1, cond_true, cond_false] at _h; first | done | omega)) ?_ | (refine wS ?_ ?_ <;> intro _h <;> simp only [W1, cond_true, cond_false] at _h))
          all_goals simp only [W1, W2, owesN, owesX, owesR, cond_true, cond_false]
          repeat' (first | apply And.intro | intro _hc)
          all_goals first | exact tup2 (leI rfl) (leI rfl) | exact AV.le_refl _ | exact AV.le_any _ | exact OLe.refl _ | exact OLe.none _ | exact LeH.refl _ | exact LeL.refl _ | exact AV.le.bs _ | exact AV.le.sb _ | omega | contradiction
        · have d1 : decide (V ≤ 9223372036854775807) = true := decide_eq_true (by omega)
          have w1 : IntKind.wrap IntKind.i64 ((0 : Int) - -(V : Int)) = (V : Int) := by rw [wrap64 (by omega) (by omega)]; omega
          simp only [d1, Bool.true_and, w1]
          cases h1 : decide (lo ≤ (V : Int)) <;> cases h2 : decide ((V : Int) ≤ hi)
          · repeat' (first | refine wC (by first | omega | (simp only [W1, cond_true, cond_false, h1, h2]; first | done | omega)) ?_ | refine wT (by first | omega | (simp only [W1, cond_true, cond_false, h1, h2]; first | done | omega)) ?_ | refine wF (by intro _h; first | omega | (simp only [W1, cond_true, cond_false, h1, h2] at _h; first | done | omega)) ?_ | (refine wS ?_ ?_ <;> intro _h <;> simp only [W1, cond_true, cond_false, h1, h2] at _h))
            all_goals simp only [W1, W2, owesN, owesX, owesR, cond_true, cond_false, h1, h2]
            repeat' (first | apply And.intro | intro _hc)
            all_goals first | exact tup2 (leI rfl) (leI rfl) | exact AV.le_refl _ | exact AV.le_any _ | exact OLe.refl _ | exact OLe.none _ | exact LeH.refl _ | exact LeL.refl _ | exact AV.le.bs _ | exact AV.le.sb _ | omega | contradiction
          · repeat' (first | refine wC (by first | omega | (simp only [W1, cond_true, cond_false, h1, h2]; first | done | omega)) ?_ | refine wT (by first | omega | (simp only [W1, cond_true, cond_false, h1, h2]; first | done | omega)) ?_ | refine wF (by intro _h; first | omega | (simp only [W1, cond_true, cond_false, h1, h2] at _h; first | done | omega)) ?_ | (refine wS ?_ ?_ <;> intro _h <;> simp only [W1, cond_true, cond_false, h1, h2] at _h))
            all_goals simp only [W1, W2, owesN, owesX, owesR, cond_true, cond_false, h1, h2]
            repeat' (first | apply And.intro | intro _hc)
            all_goals first | exact tup2 (leI rfl) (leI rfl) | exact AV.le_refl _ | exact AV.le_any _ | exact OLe.refl _ | exact OLe.none _ | exact LeH.refl _ | exact LeL.refl _ | exact AV.le.bs _ | exact AV.le.sb _ | omega | contradiction
          · repeat' (first | refine wC (by first | omega | (simp only [W1, cond_true, cond_false, h1, h2]; first | done | omega)) ?_ | refine wT (by first | omega | (simp only [W1, cond_true, cond_false, h1, h2]; first | done | omega)) ?_ | refine wF (by intro _h; first | omega | (simp only [W1, cond_true, cond_false, h1, h2] at _h; first | done | omega)) ?_ | (refine wS ?_ ?_ <;> intro _h <;> simp only [W1, cond_true, cond_false, h1, h2] at _h))
            all_goals simp only [W1, W2, owesN, owesX, owesR, cond_true, cond_false, h1, h2]
            repeat' (first | apply And.intro | intro _hc)
            all_goals first | exact tup2 (leI rfl) (leI rfl) | exact AV.le_refl _ | exact AV.le_any _ | exact OLe.refl _ | exact OLe.none _ | exact LeH.refl _ | exact LeL.refl _ | exact AV.le.bs _ | exact AV.le.sb _ | omega | contradiction
          · repeat' (first | refine wC (by first | omega | (simp only [W1, cond_true, cond_false, h1, h2]; first | done | omega)) ?_ | refine wT (by first | omega | (simp only [W1, cond_true, cond_false, h1, h2]; first | done | omega)) ?_ | refine wF (by intro _h; first | omega | (simp only [W1, cond_true, cond_false, h1, h2] at _h; first | done | omega)) ?_ | (refine wS ?_ ?_ <;> intro _h <;> simp only [W1, cond_true, cond_false, h1, h2] at _h))
            all_goals simp only [W1, W2, owesN, owesX, owesR, cond_true, cond_false, h1, h2]
            repeat' (first | apply And.intro | intro _hc)
            all_goals first | exact tup2 (leI rfl) (leI rfl) | exact AV.le_refl _ | exact AV.le_any _ | exact OLe.refl _ | exact OLe.none _ | exact LeH.refl _ | exact LeL.refl _ | exact AV.le.bs _ | exact AV.le.sb _ | omega | contradiction
end Go.Eng.TA

namespace Go.Eng.TA
open Go Go.Eng Go.Eng.M Go.Lib Go.Proofs
def vL : List UInt8 → Nat → Nat
  | [], a => a
  | x :: l, a => vL l (10 * a + (x.toNat - 48))
def dL (l : List UInt8) : Prop := ∀ x ∈ l, 48 ≤ x.toNat ∧ x.toNat ≤ 57
theorem vL_app (l : List UInt8) (x : UInt8) : ∀ a, vL (l ++ [x]) a = 10 * vL l a + (x.toNat - 48) := by
  induction l with
  | nil => intro a; rfl
  | cons y l ih => intro a; exact ih _
theorem vL_bound : ∀ {l : List UInt8} {a : Nat}, dL l → a * 10 ^ l.length ≤ vL l a ∧ vL l a < (a + 1) * 10 ^ l.length := by
  intro l
  induction l with
  | nil => intro a _; simp [vL]
  | cons x l ih =>
    intro a h
    obtain ⟨h1, h2⟩ := h x (List.mem_cons_self ..)
    obtain ⟨i1, i2⟩ := ih (a := 10 * a + (x.toNat - 48)) (fun y hy => h y (List.mem_cons_of_mem _ hy))
    rw [List.length_cons, Nat.pow_succ]
    show a * (10 ^ l.length * 10) ≤ vL l (10 * a + (x.toNat - 48)) ∧ vL l (10 * a + (x.toNat - 48)) < (a + 1) * (10 ^ l.length * 10)
    generalize 10 ^ l.length = T at *
    generalize vL l (10 * a + (x.toNat - 48)) = V at *
    generalize hk : x.toNat - 48 = k at *
    have hk : k ≤ 9 := by omega
    have e1 : a * (T * 10) ≤ (10 * a + k) * T := by
      have : a * (T * 10) = (10 * a) * T := by rw [Nat.mul_comm T 10, ← Nat.mul_assoc, Nat.mul_comm a 10]
      rw [this]; exact Nat.mul_le_mul_right _ (by omega)
    have e2 : (10 * a + k + 1) * T ≤ (a + 1) * (T * 10) := by
      have : (a + 1) * (T * 10) = (10 * (a + 1)) * T := by rw [Nat.mul_comm T 10, ← Nat.mul_assoc, Nat.mul_comm (a + 1) 10]
      rw [this]; exact Nat.mul_le_mul_right _ (by omega)
    omega
theorem vL_lt {l m : List UInt8} {a b : Nat} (hl : dL l) (hm : dL m) (he : l.length = m.length) (h : a < b) : vL l a < vL m b := by
  have h1 := (vL_bound (a := a) hl).2
  have h2 := (vL_bound (a := b) hm).1
  rw [← he] at h2
  have : (a + 1) * 10 ^ l.length ≤ b * 10 ^ l.length := Nat.mul_le_mul_right _ h
  omega
theorem vL_inj : ∀ {l m : List UInt8} {a : Nat}, dL l → dL m → l.length = m.length → vL l a = vL m a → l = m := by
  intro l
  induction l with
  | nil => intro m a _ _ h _; exact (List.eq_nil_of_length_eq_zero h.symm).symm
  | cons x l ih =>
    intro m a hl hm h e
    cases m with
    | nil => cases h
    | cons y m =>
      have hn : l.length = m.length := by simpa using h
      clear h
      have hl' : dL l := fun z hz => hl z (List.mem_cons_of_mem _ hz)
      have hm' : dL m := fun z hz => hm z (List.mem_cons_of_mem _ hz)
      obtain ⟨x1, x2⟩ := hl x (List.mem_cons_self ..)
      obtain ⟨y1, y2⟩ := hm y (List.mem_cons_self ..)
      have e : vL l (10 * a + (x.toNat - 48)) = vL m (10 * a + (y.toNat - 48)) := e
      rcases Nat.lt_trichotomy x.toNat y.toNat with c | c | c
      · have := vL_lt hl' hm' hn (show 10 * a + (x.toNat - 48) < 10 * a + (y.toNat - 48) by omega); omega
      · obtain rfl : x = y := UInt8.toNat_inj.1 c
        rw [ih hl' hm' hn e]
      · have := vL_lt hm' hl' hn.symm (show 10 * a + (y.toNat - 48) < 10 * a + (x.toNat - 48) by omega); omega
theorem vL_less : ∀ {l m : List UInt8} {a : Nat}, dL l → dL m → l.length = m.length → Op.bytesLess l m = decide (vL l a < vL m a) := by
  intro l
  induction l with
  | nil => intro m a _ _ h; rw [List.eq_nil_of_length_eq_zero h.symm]; simp [Op.bytesLess, vL]
  | cons x l ih =>
    intro m a hl hm h
    cases m with
    | nil => cases h
    | cons y m =>
      have hn : l.length = m.length := by simpa using h
      clear h
      have hl' : dL l := fun z hz => hl z (List.mem_cons_of_mem _ hz)
      have hm' : dL m := fun z hz => hm z (List.mem_cons_of_mem _ hz)
      obtain ⟨x1, x2⟩ := hl x (List.mem_cons_self ..)
      obtain ⟨y1, y2⟩ := hm y (List.mem_cons_self ..)
      show (decide (x < y) || (x == y && Op.bytesLess l m)) = decide (vL l (10 * a + (x.toNat - 48)) < vL m (10 * a + (y.toNat - 48)))
      rcases Nat.lt_trichotomy x.toNat y.toNat with c | c | c
      · have h1 := vL_lt hl' hm' hn (show 10 * a + (x.toNat - 48) < 10 * a + (y.toNat - 48) by omega)
        rw [decide_eq_true h1, decide_eq_true (UInt8.lt_iff_toNat_lt.2 c)]; rfl
      · obtain rfl : x = y := UInt8.toNat_inj.1 c
        rw [← ih hl' hm' hn, decide_eq_false (show ¬ x < x from fun hh => by have := UInt8.lt_iff_toNat_lt.1 hh; omega)]
        simp
      · have h1 := vL_lt hm' hl' hn.symm (show 10 * a + (y.toNat - 48) < 10 * a + (x.toNat - 48) by omega)
        rw [decide_eq_false (show ¬ vL l (10 * a + (x.toNat - 48)) < vL m (10 * a + (y.toNat - 48)) by omega), decide_eq_false (show ¬ x < y from fun hh => by have := UInt8.lt_iff_toNat_lt.1 hh; omega)]
        have hne : (x == y) = false := by
          rw [beq_eq_false_iff_ne]; intro e; subst e; omega
        rw [hne]; rfl
theorem bN_list (l : List UInt8) (i : Nat) (h : i < l.length) : bN ⟨⟨l⟩⟩ i = (l[i]).toNat := by
  unfold bN
  simp [List.getElem?_eq_getElem h]
theorem vN_vL (l : List UInt8) : ∀ q, q ≤ l.length → vN ⟨⟨l⟩⟩ q = vL (l.take q) 0 := by
  intro q
  induction q with
  | zero => intro _; rfl
  | succ q ih =>
    intro h
    rw [vN, ih (by omega), List.take_succ_eq_append_getElem (by omega), vL_app, bN_list l q (by omega)]
theorem vN_size (d : ByteArray) : vN d d.size = vL d.data.toList 0 := by
  obtain ⟨⟨l⟩⟩ := d
  show vN ⟨⟨l⟩⟩ l.length = vL l 0
  rw [vN_vL l _ (Nat.le_refl _), List.take_length]
end Go.Eng.TA

namespace Go.Eng.TA
open Go Go.Eng Go.Eng.M Go.Lib Go.Proofs
def topP : ByteArray := ⟨#[57, 50, 50, 51, 51, 55, 50, 48, 51, 54, 56, 53, 52, 55, 55, 53, 56, 48, 55]⟩
def topN : ByteArray := ⟨#[57, 50, 50, 51, 51, 55, 50, 48, 51, 54, 56, 53, 52, 55, 55, 53, 56, 48, 56]⟩
def topB (n : Bool) : ByteArray := if n then topN else topP
def topM (n : Bool) : Nat := if n then 9223372036854775808 else 9223372036854775807
theorem topV (n : Bool) : vL (topB n).data.toList 0 = topM n ∧ (topB n).data.toList.length = 19 ∧ dL (topB n).data.toList := by
  cases n
  · exact ⟨by decide +kernel, by decide +kernel, by unfold dL; decide +kernel⟩
  · exact ⟨by decide +kernel, by decide +kernel, by unfold dL; decide +kernel⟩
theorem allD_dL {d : ByteArray} (h : allD d) : dL d.data.toList := fun x hx => by
  obtain ⟨i, hi, rfl⟩ := List.getElem_of_mem hx
  have := h i hi
  obtain ⟨⟨l⟩⟩ := d
  rw [bN_list l i hi] at this
  exact this
def overB (n : Bool) (d : ByteArray) : Bool := bif decide (((19 : Nat) : Int) < (d.size : Int)) then true else bif decide ((d.size : Int) = ((19 : Nat) : Int)) then !(Op.bytesLess d.data.toList (topB n).data.toList || decide (d = topB n)) else false
theorem over_iff {n : Bool} {d : ByteArray} (ha : allD d) (hz : d.size = 1 ∨ (1 < d.size ∧ bN d 0 ≠ 48)) : overB n d = decide (topM n < vN d d.size) := by
  obtain ⟨t1, t2, t3⟩ := topV n
  have hL := allD_dL ha
  have hsz : d.data.toList.length = d.size := rfl
  obtain ⟨b1, b2⟩ := vL_bound (a := 0) hL
  rw [hsz] at b1 b2
  have hv := vN_size d
  have hM : 9223372036854775807 ≤ topM n ∧ topM n ≤ 9223372036854775808 := by unfold topM; split <;> omega
  unfold overB
  rcases Nat.lt_trichotomy d.size 19 with c | c | c
  · have : vL d.data.toList 0 < 10 ^ 18 := Nat.lt_of_lt_of_le b2 (by rw [Nat.zero_add, Nat.one_mul]; exact Nat.pow_le_pow_right (by omega) (by omega))
    rw [decide_eq_false (show ¬ ((19 : Nat) : Int) < (d.size : Int) by omega), decide_eq_false (show ¬ (d.size : Int) = ((19 : Nat) : Int) by omega), decide_eq_false (show ¬ topM n < vN d d.size by omega)]; rfl
  · have hl : d.data.toList.length = (topB n).data.toList.length := by rw [t2, hsz, c]
    have h1 := vL_less (a := 0) hL t3 hl
    rw [decide_eq_false (show ¬ ((19 : Nat) : Int) < (d.size : Int) by omega), decide_eq_true (show (d.size : Int) = ((19 : Nat) : Int) by omega), h1, t1, ← hv]
    simp only [cond_true, cond_false]
    by_cases he : d = topB n
    · have : vN d d.size = topM n := by rw [hv, he, t1]
      rw [decide_eq_true he, decide_eq_false (show ¬ topM n < vN d d.size by omega)]; simp
    · have hne : ¬ vN d d.size = topM n := fun e => he (by
        have := vL_inj (a := 0) hL t3 hl (by rw [t1, ← hv, e])
        obtain ⟨⟨l⟩⟩ := d
        generalize topB n = tb at *
        obtain ⟨⟨m⟩⟩ := tb
        have : l = m := this
        rw [this])
      rw [decide_eq_false he]
      by_cases hq : vN d d.size < topM n
      · rw [decide_eq_true hq, decide_eq_false (show ¬ topM n < vN d d.size by omega)]; rfl
      · rw [decide_eq_false hq, decide_eq_true (show topM n < vN d d.size by omega)]; rfl
  · have hb : 10 ^ 19 ≤ vN d d.size := by
      rcases hz with hz | ⟨_, hz⟩
      · omega
      · rw [hv]
        obtain ⟨⟨l⟩⟩ := d
        cases l with
        | nil => exact absurd c (by show ¬ 19 < 0; omega)
        | cons x l =>
          have hx : 49 ≤ x.toNat := by
            obtain ⟨x1, x2⟩ := hL x (List.mem_cons_self ..)
            have : bN ⟨⟨x :: l⟩⟩ 0 = x.toNat := rfl
            omega
          have hl' : dL l := fun z h => hL z (List.mem_cons_of_mem _ h)
          have b3 := (vL_bound (a := 10 * 0 + (x.toNat - 48)) hl').1
          have c : 19 < l.length + 1 := c
          have b4 : 10 ^ 19 ≤ 10 ^ l.length := Nat.pow_le_pow_right (by omega) (by omega)
          have b5 : 1 * 10 ^ l.length ≤ (10 * 0 + (x.toNat - 48)) * 10 ^ l.length := Nat.mul_le_mul_right _ (by omega)
          show 10 ^ 19 ≤ vL l (10 * 0 + (x.toNat - 48))
          omega
    rw [decide_eq_true (show ((19 : Nat) : Int) < (d.size : Int) by omega), decide_eq_true (show topM n < vN d d.size by omega)]; rfl
theorem fm_dg {s : ByteArray} : fmB s = (dgB (bdS s) && !(ngB s && decide (bdS s = ⟨#[48]⟩))) := by
  rw [Bool.eq_iff_iff, Bool.and_eq_true]
  unfold fmB dgB
  rw [cl_iff, cl_iff, aD_all, Bool.not_eq_true', Bool.and_eq_false_iff, decide_eq_false_iff_not, zero_size]
  constructor
  · intro ⟨h1, h2, h3⟩
    refine ⟨⟨h1, ?_⟩, ?_⟩
    · rcases h3 with h | ⟨h, _⟩
      · by_cases hs : (bdS s).size = 1
        · exact .inl hs
        · exact .inr ⟨by omega, h⟩
      · exact .inl h
    · rcases h3 with h | ⟨_, h⟩
      · exact .inr fun hh => h hh.2
      · exact .inl h
  · intro ⟨⟨h1, h2⟩, h3⟩
    refine ⟨h1, by omega, ?_⟩
    rcases h3 with h | h
    · rcases h2 with h2 | ⟨_, h2⟩
      · exact .inr ⟨h2, h⟩
      · exact .inl h2
    · by_cases hb : bN (bdS s) 0 = 48
      · rcases h2 with h2 | ⟨_, h2⟩
        · exact absurd ⟨h2, hb⟩ h
        · exact .inl h2
      · exact .inl hb
theorem runRl (s : ByteArray) (lo hi : Int) : bodyE (P := Tryd.prog) (Γ := Γm) [kDg] (fun _ => LSpec.at lvRr [] (SRr (bdS s) lo hi (ngB s) 0) (endRr (bdS s) lo hi (ngB s))) false 84 [.tmp 6, .tmp 7] (bodyOf Tryd.f93) [.v (.string s), .v (.int .i64 lo), .v (.int .i64 hi)] [] =
  Tree.chk (bif decide ((0 : Int) < (↑(ByteArray.size s) : Int)) then decide ((0 : Int) < (↑(ByteArray.size s) : Int)) else true) (.br (bif decide ((0 : Int) < (↑(ByteArray.size s) : Int)) 
    then decide (sbyte s (Int.toNat (0 : Int)) = (45 : Int)) else false) (.chk (decide ((1 : Int) ≤ (↑(ByteArray.size s) : Int)) && decide ((↑(ByteArray.size s) : Int) ≤ 
    (↑(ByteArray.size s) : Int))) (.chk (cl (ByteArray.size (ByteArray.extract s (Int.toNat (1 : Int)) (ByteArray.size s)) ≤ (1000000000 : Nat) ∧ LeL [.v (.string (ByteArray.extract s 
    (Int.toNat (1 : Int)) (ByteArray.size s)))] [.v (.string (ByteArray.extract s (Int.toNat (1 : Int)) (ByteArray.size s)))] ∧ LeH [] [])) (.br (bif !dgB (ByteArray.extract s 
    (Int.toNat (1 : Int)) (ByteArray.size s)) then true else bif bif decide ((0 : Int) < (↑(ByteArray.size s) : Int)) then decide (sbyte s (Int.toNat (0 : Int)) = (45 : Int)) else 
    false then decide (ByteArray.extract s (Int.toNat (1 : Int)) (ByteArray.size s) = ByteArray.mk #[(48 : UInt8)]) else false) (.leaf (Ans.mk (.tup [.v (.int .i64 (0 : Int)), .v (.int 
    .i64 (11 : Int))]) [])) (.br (bif decide ((↑(19 : Nat) : Int) < (↑(ByteArray.size (ByteArray.extract s (Int.toNat (1 : Int)) (ByteArray.size s))) : Int)) then true else bif decide 
    ((↑(ByteArray.size (ByteArray.extract s (Int.toNat (1 : Int)) (ByteArray.size s))) : Int) = (↑(19 : Nat) : Int)) then !(Op.bytesLess (ByteArray.extract s (Int.toNat (1 : Int)) 
    (Int.toNat (↑(ByteArray.size s) : Int))).data.toList (ByteArray.mk #[(57 : UInt8), (50 : UInt8), (50 : UInt8), (51 : UInt8), (51 : UInt8), (55 : UInt8), (50 : UInt8), (48 : UInt8), 
    (51 : UInt8), (54 : UInt8), (56 : UInt8), (53 : UInt8), (52 : UInt8), (55 : UInt8), (55 : UInt8), (53 : UInt8), (56 : UInt8), (48 : UInt8), (56 : UInt8)]).data.toList || decide 
    (ByteArray.extract s (Int.toNat (1 : Int)) (ByteArray.size s) = ByteArray.mk #[(57 : UInt8), (50 : UInt8), (50 : UInt8), (51 : UInt8), (51 : UInt8), (55 : UInt8), (50 : UInt8), (48 
    : UInt8), (51 : UInt8), (54 : UInt8), (56 : UInt8), (53 : UInt8), (52 : UInt8), (55 : UInt8), (55 : UInt8), (53 : UInt8), (56 : UInt8), (48 : UInt8), (56 : UInt8)])) else false) 
    (.leaf (Ans.mk (.tup [.v (.int .i64 (0 : Int)), .v (.int .i64 (10 : Int))]) [])) (.chk (cl (LeL [.v (.int .i64 lo), .v (.int .i64 hi), .v (.string (ByteArray.extract s (Int.toNat 
    (1 : Int)) (ByteArray.size s))), .sb (bif decide ((0 : Int) < (↑(ByteArray.size s) : Int)) then decide (sbyte s (Int.toNat (0 : Int)) = (45 : Int)) else false), .v (.int .i64 (0 : 
    Int)), .v (.int .i64 (0 : Int))] [.v (.int .i64 lo), .v (.int .i64 hi), .v (.string (bdS s)), .sb (ngB s), .v (.int .i64 (if ngB s = true then -(↑(0 : Nat) : Int) else (↑(0 : Nat) 
    : Int))), .v (.int .i64 (↑(0 : Nat) : Int))] ∧ LeH [] [])) (.br (bif decide (sgV (ngB s) (vN (bdS s) (ByteArray.size (bdS s))) < lo) then true else decide (hi < sgV (ngB s) (vN 
    (bdS s) (ByteArray.size (bdS s))))) (.leaf (Ans.mk (.tup [.v (.int .i64 (0 : Int)), .v (.int .i64 (10 : Int))]) [])) (.leaf (Ans.mk (.tup [.v (.int .i64 (sgV (ngB s) (vN (bdS s) 
    (ByteArray.size (bdS s))))), .v (.int .i64 (0 : Int))]) [])))))))) (.chk (cl (ByteArray.size s ≤ (1000000000 : Nat) ∧ LeL [.v (.string s)] [.v (.string s)] ∧ LeH [] [])) (.br (bif 
    !dgB s then true else bif bif decide ((0 : Int) < (↑(ByteArray.size s) : Int)) then decide (sbyte s (Int.toNat (0 : Int)) = (45 : Int)) else false then decide (s = ByteArray.mk 
    #[(48 : UInt8)]) else false) (.leaf (Ans.mk (.tup [.v (.int .i64 (0 : Int)), .v (.int .i64 (11 : Int))]) [])) (.br (bif decide ((↑(19 : Nat) : Int) < (↑(ByteArray.size s) : Int)) 
    then true else bif decide ((↑(ByteArray.size s) : Int) = (↑(19 : Nat) : Int)) then !(Op.bytesLess s.data.toList (ByteArray.mk #[(57 : UInt8), (50 : UInt8), (50 : UInt8), (51 : 
    UInt8), (51 : UInt8), (55 : UInt8), (50 : UInt8), (48 : UInt8), (51 : UInt8), (54 : UInt8), (56 : UInt8), (53 : UInt8), (52 : UInt8), (55 : UInt8), (55 : UInt8), (53 : UInt8), (56 
    : UInt8), (48 : UInt8), (55 : UInt8)]).data.toList || decide (s = ByteArray.mk #[(57 : UInt8), (50 : UInt8), (50 : UInt8), (51 : UInt8), (51 : UInt8), (55 : UInt8), (50 : UInt8), 
    (48 : UInt8), (51 : UInt8), (54 : UInt8), (56 : UInt8), (53 : UInt8), (52 : UInt8), (55 : UInt8), (55 : UInt8), (53 : UInt8), (56 : UInt8), (48 : UInt8), (55 : UInt8)])) else 
    false) (.leaf (Ans.mk (.tup [.v (.int .i64 (0 : Int)), .v (.int .i64 (10 : Int))]) [])) (.chk (cl (LeL [.v (.int .i64 lo), .v (.int .i64 hi), .v (.string s), .sb (bif decide ((0 : 
    Int) < (↑(ByteArray.size s) : Int)) then decide (sbyte s (Int.toNat (0 : Int)) = (45 : Int)) else false), .v (.int .i64 (0 : Int)), .v (.int .i64 (0 : Int))] [.v (.int .i64 lo), .v 
    (.int .i64 hi), .v (.string (bdS s)), .sb (ngB s), .v (.int .i64 (if ngB s = true then -(↑(0 : Nat) : Int) else (↑(0 : Nat) : Int))), .v (.int .i64 (↑(0 : Nat) : Int))] ∧ LeH [] 
    [])) (.br (bif decide (sgV (ngB s) (vN (bdS s) (ByteArray.size (bdS s))) < lo) then true else decide (hi < sgV (ngB s) (vN (bdS s) (ByteArray.size (bdS s))))) (.leaf (Ans.mk (.tup 
    [.v (.int .i64 (0 : Int)), .v (.int .i64 (10 : Int))]) [])) (.leaf (Ans.mk (.tup [.v (.int .i64 (sgV (ngB s) (vN (bdS s) (ByteArray.size (bdS s))))), .v (.int .i64 (0 : Int))]) 
    [])))))))) := by kernel_rfl
end Go.Eng.TA

namespace Go.Eng.TA
open Go Go.Eng Go.Eng.M Go.Lib Go.Proofs
theorem ngE (s : ByteArray) : (bif decide ((0 : Int) < (s.size : Int)) then decide (sbyte s (Int.toNat (0 : Int)) = (45 : Int)) else false) = ngB s := by
  have e0 : sbyte s (Int.toNat 0) = (bN s 0 : Int) := rfl
  have h1 : ((bN s 0 : Int) = 45) ↔ bN s 0 = 45 := by omega
  have h2 : ((0 : Int) < (s.size : Int)) ↔ 0 < s.size := by omega
  simp only [e0, h1, h2]
  unfold ngB
  cases decide (0 < s.size) <;> rfl
theorem brE (s : ByteArray) : (bif !dgB (bdS s) then true else bif ngB s then decide (bdS s = ⟨#[48]⟩) else false) = !fmB s := by
  rw [fm_dg]
  cases dgB (bdS s) <;> cases ngB s <;> cases decide (bdS s = ⟨#[48]⟩) <;> rfl
theorem overT (d : ByteArray) : (bif decide (((19 : Nat) : Int) < (d.size : Int)) then true else bif decide ((d.size : Int) = ((19 : Nat) : Int)) then !(Op.bytesLess d.data.toList [(57 : UInt8), (50 : UInt8), (50 : UInt8), (51 : UInt8), (51 : UInt8), (55 : UInt8), (50 : UInt8), (48 : UInt8), (51 : UInt8), (54 : UInt8), (56 : UInt8), (53 : UInt8), (52 : UInt8), (55 : UInt8), (55 : UInt8), (53 : UInt8), (56 : UInt8), (48 : UInt8), (56 : UInt8)] || decide (d = ByteArray.mk #[(57 : UInt8), (50 : UInt8), (50 : UInt8), (51 : UInt8), (51 : UInt8), (55 : UInt8), (50 : UInt8), (48 : UInt8), (51 : UInt8), (54 : UInt8), (56 : UInt8), (53 : UInt8), (52 : UInt8), (55 : UInt8), (55 : UInt8), (53 : UInt8), (56 : UInt8), (48 : UInt8), (56 : UInt8)])) else false) = overB true d := rfl
theorem overF (d : ByteArray) : (bif decide (((19 : Nat) : Int) < (d.size : Int)) then true else bif decide ((d.size : Int) = ((19 : Nat) : Int)) then !(Op.bytesLess d.data.toList [(57 : UInt8), (50 : UInt8), (50 : UInt8), (51 : UInt8), (51 : UInt8), (55 : UInt8), (50 : UInt8), (48 : UInt8), (51 : UInt8), (54 : UInt8), (56 : UInt8), (53 : UInt8), (52 : UInt8), (55 : UInt8), (55 : UInt8), (53 : UInt8), (56 : UInt8), (48 : UInt8), (55 : UInt8)] || decide (d = ByteArray.mk #[(57 : UInt8), (50 : UInt8), (50 : UInt8), (51 : UInt8), (51 : UInt8), (55 : UInt8), (50 : UInt8), (48 : UInt8), (51 : UInt8), (54 : UInt8), (56 : UInt8), (53 : UInt8), (52 : UInt8), (55 : UInt8), (55 : UInt8), (53 : UInt8), (56 : UInt8), (48 : UInt8), (55 : UInt8)])) else false) = overB false d := rfl
theorem fm_facts {s : ByteArray} (h : fmB s = true) : allD (bdS s) ∧ ((bdS s).size = 1 ∨ (1 < (bdS s).size ∧ bN (bdS s) 0 ≠ 48)) := by
  rw [fm_dg, Bool.and_eq_true] at h
  exact cl_iff.1 h.1
theorem okV_over {s : ByteArray} (h : fmB s = true) : okV s = !overB (ngB s) (bdS s) := by
  obtain ⟨h1, h2⟩ := fm_facts h
  rw [over_iff h1 h2]
  unfold okV vS topM
  rw [Bool.eq_iff_iff, decide_eq_true_iff, Bool.not_eq_true', decide_eq_false_iff_not]
  exact Nat.not_lt.symm
set_option maxHeartbeats 1000000 in
theorem ansRr {s : ByteArray} {lo hi : Int} (hs : s.size ≤ 1000000000) : Answers Tryd.prog Γm 93 [.v (.string s), .v (.int .i64 lo), .v (.int .i64 hi)] [] (rdV s lo hi) [] [] := by
  have hbr := brE s
  have hbl : (bdS s).size ≤ 1000000000 := Nat.le_trans bd_le hs
  have hng := ngE s
  have hC : (bif decide ((0 : Int) < (s.size : Int)) then decide ((0 : Int) < (s.size : Int)) else true) = true := by
    cases decide ((0 : Int) < (s.size : Int)) <;> rfl
  have hz : ngB s = true → 1 ≤ s.size := fun h => by unfold ngB at h; simp at h; omega
  unfold rdV rdN rdE
  by_cases hf : fmB s = true ∧ okV s = true
  · obtain ⟨hf, hok⟩ := hf
    have hov := okV_over hf
    rw [hok] at hov
    have hov : overB (ngB s) (bdS s) = false := by cases h : overB (ngB s) (bdS s) with | true => (rw [h] at hov; exact absurd hov (by decide)) | false => rfl
    have hv : vN (bdS s) (bdS s).size ≤ if ngB s then 9223372036854775808 else 9223372036854775807 := of_decide_eq_true hok
    have hl := loopRr (d := bdS s) (lo := lo) (hi := hi) (n := ngB s) (fm_facts hf).1 hbl hv 0 (Nat.zero_le _)
    refine answers (fn := Tryd.f93) (c := bodyOf Tryd.f93) (ntmps := 84) (results := [.tmp 6, .tmp 7]) [kDg] (fun _ => LSpec.at lvRr [] (SRr (bdS s) lo hi (ngB s) 0) (endRr (bdS s) lo hi (ngB s))) false Tryd.func93 (by kernel_rfl) (by kernel_rfl) (by kernel_rfl) (by kernel_rfl) (by simp) rfl (oneLoop (b := lpRr) (by kernel_rfl) hl) <| Meets.of (runRl s lo hi) <| ?_
    rw [hf] at hbr ⊢
    unfold inV
    rw [hok]
    change Tree.sat _ _
    simp only [if_true, Bool.true_and, hng, hC]
    have hV : vS s = vN (bdS s) (bdS s).size := rfl
    rw [hV]
    generalize sgV (ngB s) (vN (bdS s) (bdS s).size) = V at *
    have hi2 : (bif decide (V < lo) then true else decide (hi < V)) = !(decide (lo ≤ V) && decide (V ≤ hi)) := by
      have e1 : decide (V < lo) = !decide (lo ≤ V) := by rw [Bool.eq_iff_iff]; simp
      have e2 : decide (hi < V) = !decide (V ≤ hi) := by rw [Bool.eq_iff_iff]; simp
      rw [e1, e2]
      cases decide (lo ≤ V) <;> cases decide (V ≤ hi) <;> rfl
    rw [hi2]
    cases hn : ngB s with
    | true =>
      have hx := bd_neg hn
      rw [hn] at hov hbr
      simp only [Int.toNat_one, Int.toNat_natCast, ← hx, hbr, overT, hov, hn, hi2]
      have := hz hn
      cases hin : decide (lo ≤ V) && decide (V ≤ hi)
      · repeat' (first | refine wC (by first | omega | (simp only [W1, cond_true, cond_false, hin, hbl]; first | done | omega)) ?_ | refine wT (by first | omega | (simp only [W1, cond_true, cond_false, hin, hbl]; first | done | omega)) ?_ | refine wF (by intro _h; first | omega | (simp only [W1, cond_true, cond_false, hin, hbl] at _h; first | done | omega)) ?_ | (refine wS ?_ ?_ <;> intro _h <;> simp only [W1, cond_true, cond_false, hin, hbl] at _h))
        all_goals simp only [W1, W2, owesN, owesX, owesR, cond_true, cond_false, hin, hbl]
        repeat' (first | apply And.intro | intro _hc)
        all_goals first | exact tup2 (leI rfl) (leI rfl) | exact AV.le_refl _ | exact AV.le_any _ | exact OLe.refl _ | exact OLe.none _ | exact LeH.refl _ | exact LeL.refl _ | exact AV.le.bs _ | exact AV.le.sb _ | omega | contradiction
      · repeat' (first | refine wC (by first | omega | (simp only [W1, cond_true, cond_false, hin, hbl]; first | done | omega)) ?_ | refine wT (by first | omega | (simp only [W1, cond_true, cond_false, hin, hbl]; first | done | omega)) ?_ | refine wF (by intro _h; first | omega | (simp only [W1, cond_true, cond_false, hin, hbl] at _h; first | done | omega)) ?_ | (refine wS ?_ ?_ <;> intro _h <;> simp only [W1, cond_true, cond_false, hin, hbl] at _h))
        all_goals simp only [W1, W2, owesN, owesX, owesR, cond_true, cond_false, hin, hbl]
        repeat' (first | apply And.intro | intro _hc)
        all_goals first | exact tup2 (leI rfl) (leI rfl) | exact AV.le_refl _ | exact AV.le_any _ | exact OLe.refl _ | exact OLe.none _ | exact LeH.refl _ | exact LeL.refl _ | exact AV.le.bs _ | exact AV.le.sb _ | omega | contradiction
    | false =>
      have hx := bd_pos hn
      rw [hn, hx] at hov hbr
      simp only [hbr, overF, hov, hn, hi2, hx]
      cases hin : decide (lo ≤ V) && decide (V ≤ hi)
      · repeat' (first | refine wC (by first | omega | (simp only [W1, cond_true, cond_false, hin, hs]; first | done | omega)) ?_ | refine wT (by first | omega | (simp only [W1, cond_true, cond_false, hin, hs]; first | done | omega)) ?_ | refine wF (by intro _h; first | omega | (simp only [W1, cond_true, cond_false, hin, hs] at _h; first | done | omega)) ?_ | (refine wS ?_ ?_ <;> intro _h <;> simp only [W1, cond_true, cond_false, hin, hs] at _h))
        all_goals simp only [W1, W2, owesN, owesX, owesR, cond_true, cond_false, hin, hs]
        repeat' (first | apply And.intro | intro _hc)
        all_goals first | exact tup2 (leI rfl) (leI rfl) | exact AV.le_refl _ | exact AV.le_any _ | exact OLe.refl _ | exact OLe.none _ | exact LeH.refl _ | exact LeL.refl _ | exact AV.le.bs _ | exact AV.le.sb _ | omega | contradiction
      · repeat' (first | refine wC (by first | omega | (simp only [W1, cond_true, cond_false, hin, hs]; first | done | omega)) ?_ | refine wT (by first | omega | (simp only [W1, cond_true, cond_false, hin, hs]; first | done | omega)) ?_ | refine wF (by intro _h; first | omega | (simp only [W1, cond_true, cond_false, hin, hs] at _h; first | done | omega)) ?_ | (refine wS ?_ ?_ <;> intro _h <;> simp only [W1, cond_true, cond_false, hin, hs] at _h))
        all_goals simp only [W1, W2, owesN, owesX, owesR, cond_true, cond_false, hin, hs]
        repeat' (first | apply And.intro | intro _hc)
        all_goals first | exact tup2 (leI rfl) (leI rfl) | exact AV.le_refl _ | exact AV.le_any _ | exact OLe.refl _ | exact OLe.none _ | exact LeH.refl _ | exact LeL.refl _ | exact AV.le.bs _ | exact AV.le.sb _ | omega | contradiction
  · refine answers (fn := Tryd.f93) (c := bodyOf Tryd.f93) (ntmps := 84) (results := [.tmp 6, .tmp 7]) [kDg] (Lno) false Tryd.func93 (by kernel_rfl) (by kernel_rfl) (by kernel_rfl) (by kernel_rfl) (by simp) rfl (failOK fun _ _ _ => rfl) <| Meets.of (runRr s lo hi) <| ?_
    simp only [hng, hC]
    cases hf' : fmB s with
    | false =>
      rw [hf'] at hbr
      simp only [Bool.false_eq_true, if_false]
      cases hn : ngB s with
      | true =>
        have hx := bd_neg hn
        rw [hn] at hbr
        have := hz hn
        simp only [Int.toNat_one, Int.toNat_natCast, ← hx, hbr, hn]
        repeat' (first | refine wC (by first | omega | (simp only [W1, cond_true, cond_false, hbl]; first | done | omega)) ?_ | refine wT (by first | omega | (simp only [W1, cond_true, cond_false, hbl]; first | done | omega)) ?_ | refine wF (by intro _h; first | omega | (simp only [W1, cond_true, cond_false, hbl] at _h; first | done | omega)) ?_ | (refine wS ?_ ?_ <;> intro _h <;> simp only [W1, cond_true, cond_false, hbl] at _h))
        all_goals simp only [W1, W2, owesN, owesX, owesR, cond_true, cond_false, hbl]
        repeat' (first | apply And.intro | intro _hc)
        all_goals first | exact tup2 (leI rfl) (leI rfl) | exact AV.le_refl _ | exact AV.le_any _ | exact OLe.refl _ | exact OLe.none _ | exact LeH.refl _ | exact LeL.refl _ | exact AV.le.bs _ | exact AV.le.sb _ | omega | contradiction
      | false =>
        have hx := bd_pos hn
        rw [hn, hx] at hbr
        simp only [hbr, hn]
        repeat' (first | refine wC (by first | omega | (simp only [W1, cond_true, cond_false, hs]; first | done | omega)) ?_ | refine wT (by first | omega | (simp only [W1, cond_true, cond_false, hs]; first | done | omega)) ?_ | refine wF (by intro _h; first | omega | (simp only [W1, cond_true, cond_false, hs] at _h; first | done | omega)) ?_ | (refine wS ?_ ?_ <;> intro _h <;> simp only [W1, cond_true, cond_false, hs] at _h))
        all_goals simp only [W1, W2, owesN, owesX, owesR, cond_true, cond_false, hs]
        repeat' (first | apply And.intro | intro _hc)
        all_goals first | exact tup2 (leI rfl) (leI rfl) | exact AV.le_refl _ | exact AV.le_any _ | exact OLe.refl _ | exact OLe.none _ | exact LeH.refl _ | exact LeL.refl _ | exact AV.le.bs _ | exact AV.le.sb _ | omega | contradiction
    | true =>
      have hok : okV s = false := by
        cases h : okV s with
        | true => exact absurd ⟨hf', h⟩ hf
        | false => rfl
      have hov := okV_over hf'
      rw [hok] at hov
      have hov : overB (ngB s) (bdS s) = true := by cases h : overB (ngB s) (bdS s) with | true => rfl | false => (rw [h] at hov; exact absurd hov (by decide))
      unfold inV
      rw [hok]
      rw [hf'] at hbr
      simp only [if_true, Bool.false_and, Bool.false_eq_true, if_false]
      cases hn : ngB s with
      | true =>
        have hx := bd_neg hn
        rw [hn] at hov hbr
        have := hz hn
        simp only [Int.toNat_one, Int.toNat_natCast, ← hx, hbr, overT, hov, hn]
        repeat' (first | refine wC (by first | omega | (simp only [W1, cond_true, cond_false, hbl]; first | done | omega)) ?_ | refine wT (by first | omega | (simp only [W1, cond_true, cond_false, hbl]; first | done | omega)) ?_ | refine wF (by intro _h; first | omega | (simp only [W1, cond_true, cond_false, hbl] at _h; first | done | omega)) ?_ | (refine wS ?_ ?_ <;> intro _h <;> simp only [W1, cond_true, cond_false, hbl] at _h))
        all_goals simp only [W1, W2, owesN, owesX, owesR, cond_true, cond_false, hbl]
        repeat' (first | apply And.intro | intro _hc)
        all_goals first | exact tup2 (leI rfl) (leI rfl) | exact AV.le_refl _ | exact AV.le_any _ | exact OLe.refl _ | exact OLe.none _ | exact LeH.refl _ | exact LeL.refl _ | exact AV.le.bs _ | exact AV.le.sb _ | omega | contradiction
      | false =>
        have hx := bd_pos hn
        rw [hn, hx] at hov hbr
        simp only [hbr, overF, hov, hn]
        repeat' (first | refine wC (by first | omega | (simp only [W1, cond_true, cond_false, hs]; first | done | omega)) ?_ | refine wT (by first | omega | (simp only [W1, cond_true, cond_false, hs]; first | done | omega)) ?_ | refine wF (by intro _h; first | omega | (simp only [W1, cond_true, cond_false, hs] at _h; first | done | omega)) ?_ | (refine wS ?_ ?_ <;> intro _h <;> simp only [W1, cond_true, cond_false, hs] at _h))
        all_goals simp only [W1, W2, owesN, owesX, owesR, cond_true, cond_false, hs]
        repeat' (first | apply And.intro | intro _hc)
        all_goals first | exact tup2 (leI rfl) (leI rfl) | exact AV.le_refl _ | exact AV.le_any _ | exact OLe.refl _ | exact OLe.none _ | exact LeH.refl _ | exact LeL.refl _ | exact AV.le.bs _ | exact AV.le.sb _ | omega | contradiction
end Go.Eng.TA

namespace Go.Eng.TA
open Go Go.Eng Go.Eng.M Go.Lib Go.Proofs
noncomputable abbrev lpPn : Code := loopOf (bodyOf Tryd.f84) 0
abbrev lvPn : List Nat := [0, 3, 4, 5, 6]
def SPn (v : Int) (i m : Nat) (dn : Bool) (T : ByteArray) : List AV × Heap := ([.v (.int .i64 v), .ap 0, .v (.int .i64 (i : Int)), .v (.int .i64 (-(m : Int))), .sb dn], [some (.arr 1 20 (bsF T))])
def OPn (v : Int) (i : Nat) (T : ByteArray) : Out := ⟨.exit 0, [.v (.int .i64 v), .ap 0, .v (.int .i64 (i : Int)), .any, .any], [some (.arr 1 20 (bsF T))]⟩
theorem rPn (v : Int) (i m : Nat) (dn : Bool) (T : ByteArray) : roundE (P := Tryd.prog) (Γ := Γm) [] Lno false 0 0 lpPn lvPn [] 35 (SPn v i m dn T).1 (SPn v i m dn T).2 =
  Tree.br (!dn) (.chk true (.chk (decide ((0 : Int) ≤ IntKind.wrap IntKind.i64 ((↑i : Int) - (1 : Int))) && decide (IntKind.wrap IntKind.i64 ((↑i : Int) - (1 : Int)) < (↑(20 : Nat) : Int))) 
    (.chk true (.leaf (.mk .normal [.v (.int .i64 v), AV.ap (0 : Nat), .v (.int .i64 (IntKind.wrap IntKind.i64 ((↑i : Int) - (1 : Int)))), .v (.int .i64 (IntKind.wrap IntKind.i64 
    (Int.tdiv (-(↑m : Int)) (10 : Int)))), .sb (decide (IntKind.wrap IntKind.i64 (Int.tdiv (-(↑m : Int)) (10 : Int)) = (0 : Int)))] [some (.arr 1 (20 : Nat) fun k => mixL (Nat.beq k 
    (Int.toNat (IntKind.wrap IntKind.i64 ((↑i : Int) - (1 : Int))))) [.v (.int IntKind.u8 (IntKind.wrap IntKind.u8 (IntKind.wrap IntKind.i64 ((48 : Int) - Int.tmod (-(↑m : Int)) (10 : 
    Int)))))] [.v (.int IntKind.u8 (sbyte T k))])]))))) (.leaf (.mk (.exit 0) [.v (.int .i64 v), AV.ap (0 : Nat), .v (.int .i64 (↑i : Int)), .v (.int .i64 (-(↑m : Int))), .sb dn] [some 
    (.arr 1 (20 : Nat) fun j => [.v (.int IntKind.u8 (sbyte T j))])])) := by kernel_rfl
theorem runPn (v : Int) (m i : Nat) (T0 T : ByteArray) : bodyE (P := Tryd.prog) (Γ := Γm) [] (fun _ => LSpec.at lvPn [] (SPn v 20 m false T0) (OPn v i T)) false 35 [.tmp 2] (bodyOf Tryd.f84) [.v (.int .i64 v)] [] =
  Tree.br (decide ((0 : Int) < v)) (.chk (cl (LeL [.v (.int .i64 v), AV.ap (0 : Nat), .v (.int .i64 (20 : Int)), .v (.int .i64 (IntKind.wrap IntKind.i64 ((0 : Int) - v))), .v (.bool false)] 
    [.v (.int .i64 v), AV.ap (0 : Nat), .v (.int .i64 (↑(20 : Nat) : Int)), .v (.int .i64 (-(↑m : Int))), .sb false] ∧ LeH [some (.arr 1 (20 : Nat) fun x => [.v (.int IntKind.u8 (bif 
    Nat.beq x (0 : Nat) then (0 : Int) else bif Nat.beq x (1 : Nat) then (0 : Int) else bif Nat.beq x (2 : Nat) then (0 : Int) else bif Nat.beq x (3 : Nat) then (0 : Int) else bif 
    Nat.beq x (4 : Nat) then (0 : Int) else bif Nat.beq x (5 : Nat) then (0 : Int) else bif Nat.beq x (6 : Nat) then (0 : Int) else bif Nat.beq x (7 : Nat) then (0 : Int) else bif 
    Nat.beq x (8 : Nat) then (0 : Int) else bif Nat.beq x (9 : Nat) then (0 : Int) else bif Nat.beq x (10 : Nat) then (0 : Int) else bif Nat.beq x (11 : Nat) then (0 : Int) else bif 
    Nat.beq x (12 : Nat) then (0 : Int) else bif Nat.beq x (13 : Nat) then (0 : Int) else bif Nat.beq x (14 : Nat) then (0 : Int) else bif Nat.beq x (15 : Nat) then (0 : Int) else bif 
    Nat.beq x (16 : Nat) then (0 : Int) else bif Nat.beq x (17 : Nat) then (0 : Int) else bif Nat.beq x (18 : Nat) then (0 : Int) else bif Nat.beq x (19 : Nat) then (0 : Int) else (0 : 
    Int)))])] [some (.arr 1 (20 : Nat) fun j => [.v (.int IntKind.u8 (sbyte T0 j))])])) (.br (decide (v < (0 : Int))) (.chk (decide ((0 : Int) ≤ IntKind.wrap IntKind.i64 ((↑i : Int) - 
    (1 : Int))) && decide (IntKind.wrap IntKind.i64 ((↑i : Int) - (1 : Int)) < (↑(20 : Nat) : Int))) (.chk (decide ((0 : Int) ≤ IntKind.wrap IntKind.i64 ((↑i : Int) - (1 : Int))) && 
    decide (IntKind.wrap IntKind.i64 ((↑i : Int) - (1 : Int)) ≤ (↑(20 : Nat) : Int)) && true && allBytes ((20 : Nat) - Int.toNat (IntKind.wrap IntKind.i64 ((↑i : Int) - (1 : Int)))) 
    fun j => mixL (Nat.beq (Int.toNat (IntKind.wrap IntKind.i64 ((↑i : Int) - (1 : Int))) + j) (Int.toNat (IntKind.wrap IntKind.i64 ((↑i : Int) - (1 : Int))))) [.v (.int IntKind.u8 (45 
    : Int))] [.v (.int IntKind.u8 (sbyte T (Int.toNat (IntKind.wrap IntKind.i64 ((↑i : Int) - (1 : Int))) + j)))]) (.leaf (Ans.mk (.v (.string (textOf ((20 : Nat) - Int.toNat 
    (IntKind.wrap IntKind.i64 ((↑i : Int) - (1 : Int)))) fun j => mixL (Nat.beq (Int.toNat (IntKind.wrap IntKind.i64 ((↑i : Int) - (1 : Int))) + j) (Int.toNat (IntKind.wrap IntKind.i64 
    ((↑i : Int) - (1 : Int))))) [.v (.int IntKind.u8 (45 : Int))] [.v (.int IntKind.u8 (sbyte T (Int.toNat (IntKind.wrap IntKind.i64 ((↑i : Int) - (1 : Int))) + j)))]))) [])))) (.chk 
    (decide ((0 : Int) ≤ (↑i : Int)) && decide ((↑i : Int) ≤ (↑(20 : Nat) : Int)) && true && allBytes ((20 : Nat) - i) fun j => [.v (.int IntKind.u8 (sbyte T (i + j)))]) (.leaf (Ans.mk 
    (.v (.string (textOf ((20 : Nat) - i) fun j => [.v (.int IntKind.u8 (sbyte T (i + j)))]))) []))))) (.chk (cl (LeL [.v (.int .i64 v), AV.ap (0 : Nat), .v (.int .i64 (20 : Int)), .v 
    (.int .i64 v), .v (.bool false)] [.v (.int .i64 v), AV.ap (0 : Nat), .v (.int .i64 (↑(20 : Nat) : Int)), .v (.int .i64 (-(↑m : Int))), .sb false] ∧ LeH [some (.arr 1 (20 : Nat) fun 
    x => [.v (.int IntKind.u8 (bif Nat.beq x (0 : Nat) then (0 : Int) else bif Nat.beq x (1 : Nat) then (0 : Int) else bif Nat.beq x (2 : Nat) then (0 : Int) else bif Nat.beq x (3 : 
    Nat) then (0 : Int) else bif Nat.beq x (4 : Nat) then (0 : Int) else bif Nat.beq x (5 : Nat) then (0 : Int) else bif Nat.beq x (6 : Nat) then (0 : Int) else bif Nat.beq x (7 : Nat) 
    then (0 : Int) else bif Nat.beq x (8 : Nat) then (0 : Int) else bif Nat.beq x (9 : Nat) then (0 : Int) else bif Nat.beq x (10 : Nat) then (0 : Int) else bif Nat.beq x (11 : Nat) 
    then (0 : Int) else bif Nat.beq x (12 : Nat) then (0 : Int) else bif Nat.beq x (13 : Nat) then (0 : Int) else bif Nat.beq x (14 : Nat) then (0 : Int) else bif Nat.beq x (15 : Nat) 
    then (0 : Int) else bif Nat.beq x (16 : Nat) then (0 : Int) else bif Nat.beq x (17 : Nat) then (0 : Int) else bif Nat.beq x (18 : Nat) then (0 : Int) else bif Nat.beq x (19 : Nat) 
    then (0 : Int) else (0 : Int)))])] [some (.arr 1 (20 : Nat) fun j => [.v (.int IntKind.u8 (sbyte T0 j))])])) (.br (decide (v < (0 : Int))) (.chk (decide ((0 : Int) ≤ IntKind.wrap 
    IntKind.i64 ((↑i : Int) - (1 : Int))) && decide (IntKind.wrap IntKind.i64 ((↑i : Int) - (1 : Int)) < (↑(20 : Nat) : Int))) (.chk (decide ((0 : Int) ≤ IntKind.wrap IntKind.i64 ((↑i 
    : Int) - (1 : Int))) && decide (IntKind.wrap IntKind.i64 ((↑i : Int) - (1 : Int)) ≤ (↑(20 : Nat) : Int)) && true && allBytes ((20 : Nat) - Int.toNat (IntKind.wrap IntKind.i64 ((↑i 
    : Int) - (1 : Int)))) fun j => mixL (Nat.beq (Int.toNat (IntKind.wrap IntKind.i64 ((↑i : Int) - (1 : Int))) + j) (Int.toNat (IntKind.wrap IntKind.i64 ((↑i : Int) - (1 : Int))))) 
    [.v (.int IntKind.u8 (45 : Int))] [.v (.int IntKind.u8 (sbyte T (Int.toNat (IntKind.wrap IntKind.i64 ((↑i : Int) - (1 : Int))) + j)))]) (.leaf (Ans.mk (.v (.string (textOf ((20 : 
    Nat) - Int.toNat (IntKind.wrap IntKind.i64 ((↑i : Int) - (1 : Int)))) fun j => mixL (Nat.beq (Int.toNat (IntKind.wrap IntKind.i64 ((↑i : Int) - (1 : Int))) + j) (Int.toNat 
    (IntKind.wrap IntKind.i64 ((↑i : Int) - (1 : Int))))) [.v (.int IntKind.u8 (45 : Int))] [.v (.int IntKind.u8 (sbyte T (Int.toNat (IntKind.wrap IntKind.i64 ((↑i : Int) - (1 : Int))) 
    + j)))]))) [])))) (.chk (decide ((0 : Int) ≤ (↑i : Int)) && decide ((↑i : Int) ≤ (↑(20 : Nat) : Int)) && true && allBytes ((20 : Nat) - i) fun j => [.v (.int IntKind.u8 (sbyte T (i 
    + j)))]) (.leaf (Ans.mk (.v (.string (textOf ((20 : Nat) - i) fun j => [.v (.int IntKind.u8 (sbyte T (i + j)))]))) []))))) := by kernel_rfl
end Go.Eng.TA

namespace Go.Eng.TA
open Go Go.Eng Go.Eng.M Go.Lib Go.Proofs
def prL (n : Nat) : List UInt8 := if n < 10 then [b8 (48 + n)] else prL (n / 10) ++ [b8 (48 + n % 10)]
  termination_by n
  decreasing_by omega
theorem prL_small {n : Nat} (h : n < 10) : prL n = [b8 (48 + n)] := by rw [prL, if_pos h]
theorem prL_step {n : Nat} (h : 10 ≤ n) : prL n = prL (n / 10) ++ [b8 (48 + n % 10)] := by rw [prL, if_neg (by omega)]
theorem prL_pos (n : Nat) : 1 ≤ (prL n).length := by
  rcases Nat.lt_or_ge n 10 with h | h
  · rw [prL_small h]; exact Nat.le_refl _
  · rw [prL_step h]; simp
theorem prL_len : ∀ (k n : Nat), n < 10 ^ (k + 1) → (prL n).length ≤ k + 1 := by
  intro k
  induction k with
  | zero => intro n h; rw [prL_small (by simpa using h)]; exact Nat.le_refl _
  | succ k ih =>
    intro n h
    rcases Nat.lt_or_ge n 10 with h1 | h1
    · rw [prL_small h1]; simp
    · rw [prL_step h1, List.length_append]
      have := ih (n / 10) (by rw [Nat.pow_succ] at h; omega)
      simp; omega
def padT (t : List UInt8) : ByteArray := ⟨⟨List.replicate (20 - t.length) 0 ++ t⟩⟩
theorem sb_pad (t : List UInt8) (k : Nat) : sbyte (padT t) k = (((List.replicate (20 - t.length) 0 ++ t)[k]?.getD 0).toNat : Int) := by
  show ((((padT t).data[k]?).getD 0).toNat : Int) = _
  unfold padT
  simp
theorem sb_zero (k : Nat) : sbyte (padT []) k = 0 := by
  rw [sb_pad]
  simp only [List.append_nil, List.getElem?_replicate]
  split <;> rfl
theorem sb_cons {t : List UInt8} (h : t.length < 20) (d : UInt8) (k : Nat) : sbyte (padT (d :: t)) k = if k = 19 - t.length then (d.toNat : Int) else sbyte (padT t) k := by
  rw [sb_pad, sb_pad]
  have e1 : 20 - (d :: t).length = 19 - t.length := by rw [List.length_cons]; omega
  have e2 : 20 - t.length = (19 - t.length) + 1 := by omega
  rw [e1, e2]
  generalize 19 - t.length = n
  rcases Nat.lt_trichotomy k n with c | c | c
  · rw [if_neg (by omega), List.getElem?_append_left (by simp; omega), List.getElem?_append_left (by simp; omega), List.getElem?_replicate, List.getElem?_replicate, if_pos c, if_pos (by omega)]
  · subst c
    rw [if_pos rfl, List.getElem?_append_right (by simp)]
    simp
  · rw [if_neg (by omega), List.getElem?_append_right (by simp; omega), List.getElem?_append_right (by simp; omega), List.length_replicate, List.length_replicate, show k - n = (k - (n + 1)) + 1 by omega, List.getElem?_cons_succ]
theorem mixU (c : Bool) (a b : Int) : mixL c [.v (.int .u8 a)] [.v (.int .u8 b)] = [.v (.int .u8 (bif c then a else b))] := by cases c <;> rfl
theorem upd_pad {t : List UInt8} (h : t.length < 20) (d : UInt8) {q : Nat} (hq : q = 19 - t.length) {a : Int} (ha : a = (d.toNat : Int)) : (fun k => mixL (Nat.beq k q) [.v (.int .u8 a)] (bsF (padT t) k)) = bsF (padT (d :: t)) := by
  funext k
  show mixL _ _ [.v (.int .u8 (sbyte (padT t) k))] = [.v (.int .u8 (sbyte (padT (d :: t)) k))]
  rw [mixU, sb_cons h, hq, ha]
  by_cases hk : k = 19 - t.length
  · rw [if_pos hk, show Nat.beq k (19 - t.length) = true from by rw [Nat.beq_eq]; exact hk]; rfl
  · rw [if_neg hk, show Nat.beq k (19 - t.length) = false from by rw [Bool.eq_false_iff]; exact fun h => hk (Nat.eq_of_beq_eq_true h)]; rfl
theorem dg8 {m : Nat} : IntKind.wrap IntKind.u8 (IntKind.wrap IntKind.i64 ((48 : Int) - Int.tmod (-(m : Int)) (10 : Int))) = (((b8 (48 + m % 10)).toNat : Nat) : Int) := by
  rw [Int.neg_tmod, Int.tmod_eq_emod_of_nonneg (by omega)]
  have h1 : IntKind.wrap IntKind.i64 ((48 : Int) - -((m : Int) % 10)) = (48 : Int) - -((m : Int) % 10) := wrap64 (by omega) (by omega)
  rw [h1, wrapU8, b8_nat (by omega)]
  omega
theorem dq8 {m : Nat} (h : m ≤ 9223372036854775808) : IntKind.wrap IntKind.i64 (Int.tdiv (-(m : Int)) (10 : Int)) = -((m / 10 : Nat) : Int) := by
  rw [Int.neg_tdiv, Int.tdiv_eq_ediv_of_nonneg (by omega), wrap64 (by omega) (by omega)]
  omega
def dnN (b : Bool) : Nat := if b then 0 else 1
structure XN where
  m : Nat
  dn : Bool
  t : List UInt8
theorem loopPn {v : Int} {tgt : List UInt8} (ht : tgt.length ≤ 19) : ∀ x : XN, (x.m ≤ 9223372036854775808 ∧ ((x.dn = true ∧ x.m = 0 ∧ x.t = tgt) ∨ (x.dn = false ∧ prL x.m ++ x.t = tgt))) → LoopOK Tryd.prog Γm 0 35 lpPn (LSpec.at lvPn [] (SPn v (20 - x.t.length) x.m x.dn (padT x.t)) (OPn v (20 - tgt.length) (padT tgt))) := by
  refine loop_at (S := fun x : XN => SPn v (20 - x.t.length) x.m x.dn (padT x.t)) (O := fun _ => OPn v (20 - tgt.length) (padT tgt)) (k := 0) (fun x => 2 * x.m + dnN x.dn) fun x hp => .of (noLoops (by kernel_rfl)) (rPn v (20 - x.t.length) x.m x.dn (padT x.t)) ?_
  obtain ⟨m, dn, t⟩ := x
  obtain ⟨h1, h2⟩ := hp
  dsimp only at h1 h2
  rcases h2 with ⟨rfl, rfl, rfl⟩ | ⟨rfl, h2⟩
  · repeat' (first | refine wC (by first | omega | (simp only [W1, cond_true, cond_false]; first | done | omega)) ?_ | refine wT (by first | omega | (simp only [W1, cond_true, cond_false]; first | done | omega)) ?_ | refine wF (by intro _h; first | omega | (simp only [W1, cond_true, cond_false] at _h; first | done | omega)) ?_ | (refine wS ?_ ?_ <;> intro _h <;> simp only [W1, cond_true, cond_false] at _h))
    all_goals simp only [W1, W2, owesN, owesX, owesR, cond_true, cond_false]
    repeat' (first | apply And.intro | intro _hc)
    all_goals first | exact rfl | exact AV.le_refl _ | exact AV.le_any _ | exact OLe.refl _ | exact OLe.none _ | exact LeH.refl _ | exact LeL.refl _ | exact AV.le.bs _ | exact AV.le.sb _ | omega | contradiction
  · have hl := congrArg List.length h2
    rw [List.length_append] at hl
    have hpl := prL_pos m
    have w1 : IntKind.wrap IntKind.i64 (((20 - t.length : Nat) : Int) - 1) = ((19 - t.length : Nat) : Int) := by rw [wrap64 (by omega) (by omega)]; omega
    have hu := upd_pad (t := t) (by omega) (b8 (48 + m % 10)) (q := 19 - t.length) rfl rfl
    have hz : decide (-((m / 10 : Nat) : Int) = 0) = decide (m / 10 = 0) := by
      rw [Bool.eq_iff_iff, decide_eq_true_iff, decide_eq_true_iff]; omega
    have hnx : (decide (m / 10 = 0) = true ∧ m / 10 = 0 ∧ b8 (48 + m % 10) :: t = tgt) ∨ (decide (m / 10 = 0) = false ∧ prL (m / 10) ++ b8 (48 + m % 10) :: t = tgt) := by
      rcases Nat.lt_or_ge m 10 with c | c
      · refine .inl ⟨decide_eq_true (by omega), by omega, ?_⟩
        rw [prL_small c] at h2
        rw [show m % 10 = m by omega]; exact h2
      · refine .inr ⟨decide_eq_false (by omega), ?_⟩
        rw [prL_step c, List.append_assoc] at h2
        exact h2
    have hlen : 20 - (b8 (48 + m % 10) :: t).length = 19 - t.length := by rw [List.length_cons]; omega
    have hmu : 2 * (m / 10) + dnN (decide (m / 10 = 0)) < 2 * m + dnN false := by
      have e1 : dnN false = 1 := rfl
      by_cases hc : m / 10 = 0
      · rw [decide_eq_true hc, e1, show dnN true = 0 from rfl]; omega
      · rw [decide_eq_false hc, e1]; omega
    have hu' : OLe (some (Blk.arr 1 20 fun k => mixL (Nat.beq k (19 - t.length)) [.v (.int .u8 ((b8 (48 + m % 10)).toNat : Int))] [.v (.int .u8 (sbyte (padT t) k))])) (some (.arr 1 20 (bsF (padT (b8 (48 + m % 10) :: t))))) := by
      rw [← hu]; exact OLe.refl _
    simp only [w1, dq8 h1, dg8, hz, Int.toNat_natCast]
    repeat' (first | refine wC (by first | omega | (simp only [W1, cond_true, cond_false]; first | done | omega)) ?_ | refine wT (by first | omega | (simp only [W1, cond_true, cond_false]; first | done | omega)) ?_ | refine wF (by intro _h; first | omega | (simp only [W1, cond_true, cond_false] at _h; first | done | omega)) ?_ | (refine wS ?_ ?_ <;> intro _h <;> simp only [W1, cond_true, cond_false] at _h))
    all_goals simp only [W1, W2, owesN, owesX, owesR, cond_true, cond_false]
    repeat' (first | apply And.intro | intro _hc)
    all_goals first | exact ⟨⟨m / 10, decide (m / 10 = 0), b8 (48 + m % 10) :: t⟩, by (rw [hlen]; exact LeL.refl _), ⟨hu', trivial⟩, ⟨by dsimp only; omega, hnx⟩, hmu⟩ | exact AV.le_refl _ | exact AV.le_any _ | exact OLe.refl _ | exact OLe.none _ | exact LeH.refl _ | exact LeL.refl _ | exact AV.le.bs _ | exact AV.le.sb _ | omega | contradiction
end Go.Eng.TA

namespace Go.Eng.TA
open Go Go.Eng Go.Eng.M Go.Lib Go.Proofs
def prU (v : Int) : List UInt8 := if v < 0 then 45 :: prL v.natAbs else prL v.natAbs
def prS (v : Int) : ByteArray := ⟨⟨prU v⟩⟩
def inI64 (v : Int) : Prop := -9223372036854775808 ≤ v ∧ v ≤ 9223372036854775807
theorem sb_tail {u : List UInt8} (h : u.length ≤ 20) (j : Nat) : sbyte (padT u) (20 - u.length + j) = sbyte ⟨⟨u⟩⟩ j := by
  rw [sb_pad, List.getElem?_append_right (by simp)]
  rw [List.length_replicate, show 20 - u.length + j - (20 - u.length) = j by omega]
  show _ = ((((⟨⟨u⟩⟩ : ByteArray).data[j]?).getD 0).toNat : Int)
  simp
theorem txt_pad {u : List UInt8} (h : u.length ≤ 20) {n : Nat} (hn : n = u.length) : textOf n (fun j => [.v (.int .u8 (sbyte (padT u) (20 - u.length + j)))]) = ⟨⟨u⟩⟩ := by
  have : (fun j => [AV.v (.int .u8 (sbyte (padT u) (20 - u.length + j)))]) = bsF ⟨⟨u⟩⟩ := by
    funext j; rw [sb_tail h]; rfl
  rw [this]
  exact textOf_bs hn
theorem all_pad (n i : Nat) (T : ByteArray) : allBytes n (fun j => [.v (.int .u8 (sbyte T (i + j)))]) = true := by
  unfold allBytes
  rw [List.all_eq_true]
  intro j _
  rfl
theorem neg_pad {t : List UInt8} (h : t.length < 20) (j : Nat) : mixL (Nat.beq (19 - t.length + j) (19 - t.length)) [.v (.int .u8 45)] [.v (.int .u8 (sbyte (padT t) (19 - t.length + j)))] = [.v (.int .u8 (sbyte (padT (45 :: t)) (19 - t.length + j)))] :=
  congrFun (upd_pad h 45 (q := 19 - t.length) rfl (a := 45) rfl) (19 - t.length + j)
theorem ansPn {v : Int} (h : inI64 v) : Answers Tryd.prog Γm 84 [.v (.int .i64 v)] [] (.v (.string (prS v))) [] [] := by
  obtain ⟨h1, h2⟩ := h
  have hlen : (prL v.natAbs).length ≤ 19 := prL_len 18 _ (by omega)
  have hl := loopPn (v := v) hlen ⟨v.natAbs, false, []⟩ ⟨by dsimp only; omega, .inr ⟨rfl, List.append_nil _⟩⟩
  refine answers (fn := Tryd.f84) (c := bodyOf Tryd.f84) (ntmps := 35) (results := [.tmp 2]) [] (fun _ => LSpec.at lvPn [] (SPn v 20 v.natAbs false (padT [])) (OPn v (20 - (prL v.natAbs).length) (padT (prL v.natAbs)))) false Tryd.func84 (by kernel_rfl) (by kernel_rfl) (by kernel_rfl) (by kernel_rfl) (by simp) rfl (oneLoop (b := lpPn) (by kernel_rfl) hl) <| Meets.of (runPn v v.natAbs (20 - (prL v.natAbs).length) (padT []) (padT (prL v.natAbs))) <| ?_
  have hc : ∀ b : Bool, (bif b then (0 : Int) else 0) = 0 := fun b => by cases b <;> rfl
  unfold prS prU
  rcases Int.lt_trichotomy v 0 with c | c | c
  · rw [if_pos c]
    have w0 : -((v.natAbs : Nat) : Int) = v := by omega
    have hsp := prL_pos v.natAbs
    generalize prL v.natAbs = t at *
    have w1 : IntKind.wrap IntKind.i64 (((20 - t.length : Nat) : Int) - 1) = ((19 - t.length : Nat) : Int) := by rw [wrap64 (by omega) (by omega)]; omega
    have hT : textOf (20 - (19 - t.length)) (fun j => [.v (.int .u8 (sbyte (padT (45 :: t)) (19 - t.length + j)))]) = ⟨⟨45 :: t⟩⟩ := by
      have := txt_pad (u := 45 :: t) (by rw [List.length_cons]; omega) (n := 20 - (19 - t.length)) (by rw [List.length_cons]; omega)
      rw [show 20 - (45 :: t).length = 19 - t.length by rw [List.length_cons]; omega] at this
      exact this
    simp only [w1, Int.toNat_natCast, neg_pad (show t.length < 20 by omega), hT, all_pad, w0, hc, sb_zero]
    repeat' (first | refine wC (by first | omega | (simp only [W1, cond_true, cond_false]; first | done | omega)) ?_ | refine wT (by first | omega | (simp only [W1, cond_true, cond_false]; first | done | omega)) ?_ | refine wF (by intro _h; first | omega | (simp only [W1, cond_true, cond_false] at _h; first | done | omega)) ?_ | (refine wS ?_ ?_ <;> intro _h <;> simp only [W1, cond_true, cond_false] at _h))
    all_goals simp only [W1, W2, owesN, owesX, owesR, cond_true, cond_false]
    repeat' (first | apply And.intro | intro _hc)
    all_goals first | exact AV.le_refl _ | exact AV.le_any _ | exact OLe.refl _ | exact OLe.none _ | exact LeH.refl _ | exact LeL.refl _ | exact AV.le.bs _ | exact AV.le.sb _ | omega | contradiction
  · subst c
    rw [if_neg (by omega)]
    have hT := txt_pad (u := prL (Int.natAbs 0)) (by omega) (n := 20 - (20 - (prL (Int.natAbs 0)).length)) (by omega)
    simp only [hT, all_pad, hc, sb_zero]
    repeat' (first | refine wC (by first | omega | (simp only [W1, cond_true, cond_false]; first | done | omega)) ?_ | refine wT (by first | omega | (simp only [W1, cond_true, cond_false]; first | done | omega)) ?_ | refine wF (by intro _h; first | omega | (simp only [W1, cond_true, cond_false] at _h; first | done | omega)) ?_ | (refine wS ?_ ?_ <;> intro _h <;> simp only [W1, cond_true, cond_false] at _h))
    all_goals simp only [W1, W2, owesN, owesX, owesR, cond_true, cond_false]
    repeat' (first | apply And.intro | intro _hc)
    all_goals first | exact AV.le_refl _ | exact AV.le_any _ | exact OLe.refl _ | exact OLe.none _ | exact LeH.refl _ | exact LeL.refl _ | exact AV.le.bs _ | exact AV.le.sb _ | omega | contradiction
  · rw [if_neg (by omega)]
    have w0 : IntKind.wrap IntKind.i64 ((0 : Int) - v) = -((v.natAbs : Nat) : Int) := by rw [wrap64 (by omega) (by omega)]; omega
    have hT := txt_pad (u := prL v.natAbs) (by omega) (n := 20 - (20 - (prL v.natAbs).length)) (by omega)
    simp only [hT, all_pad, hc, sb_zero, w0]
    repeat' (first | refine wC (by first | omega | (simp only [W1, cond_true, cond_false]; first | done | omega)) ?_ | refine wT (by first | omega | (simp only [W1, cond_true, cond_false]; first | done | omega)) ?_ | refine wF (by intro _h; first | omega | (simp only [W1, cond_true, cond_false] at _h; first | done | omega)) ?_ | (refine wS ?_ ?_ <;> intro _h <;> simp only [W1, cond_true, cond_false] at _h))
    all_goals simp only [W1, W2, owesN, owesX, owesR, cond_true, cond_false]
    repeat' (first | apply And.intro | intro _hc)
    all_goals first | exact AV.le_refl _ | exact AV.le_any _ | exact OLe.refl _ | exact OLe.none _ | exact LeH.refl _ | exact LeL.refl _ | exact AV.le.bs _ | exact AV.le.sb _ | omega | contradiction
noncomputable def kPr : CT Tryd.prog Γm := CT.oI 84 .i64 Tryd.func84 (by kernel_rfl) (by kernel_rfl) (fun v => inI64 v) (fun v => .v (.string (prS v))) (fun _ => []) (fun v h => ansPn h)
end Go.Eng.TA
