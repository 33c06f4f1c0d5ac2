/- An abstract evaluator of the model's code, part O: slice expressions, and every operation. -/
import Derived.Test.YtnpfcaecaflfbaaDoorEngN2
namespace Go.Eng
open Go
set_option linter.unusedSimpArgs false
set_option linter.unusedVariables false

section
variable {P : Program} {Γ : Nat → AV} {κ : Ctx} {σ : Store} {φ : Places} {get : Get} {w : World} {out : OpOut} {nb : Nat} {ip : Bool}

theorem three_true {a b c : Bool} (h : (a && b && c) = true) : a = true ∧ b = true ∧ c = true := by
  simp only [Bool.and_eq_true] at h; exact ⟨h.1.1, h.1.2, h.2⟩

/-- the slice of a slice, run -/
theorem run_slice {t elem : TypeId} {sz : Nat} {a : Option Addr} {len cap : Nat} {vl vh : Option Value} {lo hi : Option AV} {l h : Int} (hu : P.underlying t = some (.slice elem)) (hsz : szOf P elem = some sz)
    (hl : bound 0 lo = some l) (hh : bound len hi = some h) (vlo : VO σ φ lo vl) (vho : VO σ φ hi vh) (h0 : 0 ≤ l) (h1 : l ≤ h) (h2 : h ≤ cap) :
    (Instr.sliceAt t (.slice a len cap) vl vh none).run P w = .ok (.slice (if cap = l.toNat then a else a.map (·.add (l.toNat * sz))) (h.toNat - l.toNat) (cap - l.toNat)) w := by
  unfold Instr.sliceAt Instr.slice
  simp only [Sem.run_bind, run_underlying hu, Result.andThen_ok, run_sliceBounds hl hh vlo vho h0 h1 h2, run_sizeOf hsz, Sem.run_pure]

theorem slice_ok {t : TypeId} {x : AV} {lo hi mx : Option AV} {vx : Value} {vl vh vm : Option Value} (h : (sliceE P ip nb get t x lo hi mx).get = some out) (hx : V σ φ x vx)
    (vlo : VO σ φ lo vl) (vho : VO σ φ hi vh) (vmo : VO σ φ mx vm) (hR : R κ σ φ get w) (hn : ∀ k, nb ≤ k → k < nb + out.new.length → φ k = none) :
    Eff P κ σ φ nb get w (Instr.sliceAt t vx vl vh vm) out := by
  unfold sliceE at h
  split at h
  · rename_i km m
    split at h
    · -- with a third index, which is 0
      split at h
      · split at h
        · rename_i elem hh hl hel
          have hu := elemOfT_some hel
          split at h
          · rename_i xh sz z hsz hz
            split at h
            · simp [Tree.get] at h
            · rename_i hzl
              have hzl : z.length = sz := by simpa using hzl
              cases vm with
              | none => exact vmo.elim
              | some vm =>
                have := V.v_eq vmo
                subst this
                cases vh with
                | none => exact vho.elim
                | some vh =>
                  obtain ⟨kh, rfl⟩ := bound_run hh vho
                  have main : ∀ (a : Option Addr) (len cap : Nat), vx = .slice a len cap → (Instr.sliceAt t vx vl (some (.int kh 0)) (some (.int km 0))).run P w = .ok (.slice a 0 0) w := by
                    intro a len cap hvx
                    subst hvx
                    have hb : ∀ (y : Nat) (k : IntKind) (c : BoundsCode), (Instr.sliceBound (.int k 0) y c).run P w = .ok 0 w := fun y k c => by
                      have := run_sliceBound (P := P) (w := w) (v := .int k 0) (k := k) (i := 0) (y := y) (code := c) rfl (by omega) (by omega)
                      simpa using this
                    cases lo with
                    | none =>
                      cases vl with
                      | some _ => exact vlo.elim
                      | none => simp [Instr.sliceAt, Instr.slice, run_underlying hu, Instr.sliceBounds, hb, run_sizeOf hsz]
                    | some xl =>
                      cases vl with
                      | none => exact vlo.elim
                      | some vl =>
                        obtain ⟨kl, rfl⟩ := bound_run hl vlo
                        simp [Instr.sliceAt, Instr.slice, run_underlying hu, Instr.sliceBounds, hb, run_sizeOf hsz]
                  have fin : ∀ (a : Option Addr) (len cap : Nat), vx = .slice a len cap → out = { val := .hs nb 0 0, new := [.arr sz 0 fun _ => z] } →
                      Eff P κ σ φ nb get w (Instr.sliceAt t vx vl (some (.int kh 0)) (some (.int km 0))) out := by
                    intro a len cap hvx hout
                    subst hout
                    have hnb := hn nb (Nat.le_refl _) (by simp)
                    refine ⟨_, w, fresh φ nb ⟨0, 0, sz, 0, 0, true⟩, main a len cap hvx, fresh_le hnb _, fun j hj hjj => fresh_none (m := 0) hj (by simpa using hjj), .hsnil (L := ⟨0, 0, sz, 0, 0, true⟩) a fresh_at (Nat.le_refl 0) rfl, ?_⟩
                    exact hR.virtual hnb rfl _ (fun b' hb' => by simp at hb'; subst hb'; exact fun _ => hzl) (fun _ _ _ h' => by cases h'; rfl)
                  split at h
                  · simp only [Tree.get, Option.some.injEq] at h
                    cases hx with
                    | base hx =>
                      cases hx with
                      | sl => exact fin _ _ _ rfl h.symm
                      | slnil => exact fin _ _ _ rfl h.symm
                  · simp only [Tree.get, Option.some.injEq] at h
                    cases hx with
                    | base hx => cases hx
                    | hs => exact fin _ _ _ rfl h.symm
                    | hsnil => exact fin _ _ _ rfl h.symm
                  · obtain rfl := get_one h
                    cases hx.v_eq
                    exact Pur.eff ⟨_, main none 0 0 rfl, V_v _, rfl, rfl⟩ hR
                  · simp [Tree.get] at h
          · simp [Tree.get] at h
        · simp [Tree.get] at h
      · simp [Tree.get] at h
    · split at h
      · rename_i id e n
        split at h
        · rename_i sz N f l hh elem hg hl hb hel
          have hu := elemOfT_some hel
          split at h
          · rename_i hsz
            obtain ⟨hsz, hhi⟩ := hsz
            obtain ⟨hc, h⟩ := get_chk h
            obtain rfl := get_one h
            simp only [Bool.and_eq_true, decide_eq_true_eq] at hc
            obtain ⟨⟨⟨h0, h1⟩, h2⟩, h3⟩ := hc
            cases vm with
            | none => exact vmo.elim
            | some vm =>
              have := V.v_eq vmo
              subst this
              have hsl : ∃ A cap, vx = .slice A n cap ∧ n ≤ cap := by
                cases hx with
                | base hx => cases hx
                | hs hL hr hnc he hxx hcc => exact ⟨_, _, rfl, hnc⟩
                | hsnil A hL he hn0 => subst hn0; exact ⟨_, _, rfl, Nat.le_refl 0⟩
              obtain ⟨A, cap, rfl, hnc⟩ := hsl
              refine Pur.eff ⟨.slice (if m.toNat = l.toNat then A else A.map (·.add (l.toNat * sz))) (hh.toNat - l.toNat) (m.toNat - l.toNat), ?_, V_any _, rfl, rfl⟩ hR
              · have hm := fun code => run_sliceBound (P := P) (w := w) (v := .int km m) (k := km) (i := m) (y := cap) (code := code) rfl (by omega) (by omega)
                cases hi with
                | none => simp at hhi
                | some xh =>
                  cases vh with
                  | none => exact vho.elim
                  | some vh =>
                    obtain ⟨kh, rfl⟩ := bound_run hb vho
                    have hh' := fun code => run_sliceBound (P := P) (w := w) (v := .int kh hh) (k := kh) (i := hh) (y := m.toNat) (code := code) rfl (by omega) (by omega)
                    cases lo with
                    | none =>
                      cases vl with
                      | some _ => exact vlo.elim
                      | none =>
                        simp [bound] at hl; subst hl
                        simp [Instr.sliceAt, Instr.slice, run_underlying hu, Instr.sliceBounds, hm, hh', run_sizeOf hsz]
                    | some xl =>
                      cases vl with
                      | none => exact vlo.elim
                      | some vl =>
                        obtain ⟨kl, rfl⟩ := bound_run hl vlo
                        have hl' := fun code => run_sliceBound (P := P) (w := w) (v := .int kl l) (k := kl) (i := l) (y := hh.toNat) (code := code) rfl (by omega) (by omega)
                        simp [Instr.sliceAt, Instr.slice, run_underlying hu, Instr.sliceBounds, hm, hh', hl', run_sizeOf hsz]
          · simp [Tree.get] at h
        · simp [Tree.get] at h
      · simp [Tree.get] at h
  · simp [Tree.get] at h
  · cases vm with
    | some _ => exact vmo.elim
    | none =>
      split at h
      · rename_i s
        split at h
        · rename_i hu
          split at h
          · rename_i l hh hl hb
            obtain ⟨hc, h⟩ := get_chk h
            obtain rfl := get_one h
            obtain ⟨h0, h1, h2⟩ := three_true hc
            simp only [decide_eq_true_eq] at h0 h1 h2
            cases hx.v_eq
            refine Pur.eff ⟨_, ?_, V_v _, rfl, rfl⟩ hR
            unfold Instr.sliceAt Instr.slice
            simp only [Sem.run_bind, run_underlying hu, Result.andThen_ok, Option.isSome_none, Bool.false_eq_true, if_false]
            simp [run_sliceBounds hl hb vlo vho h0 h1 h2]
          · simp [Tree.get] at h
        · simp [Tree.get] at h
      · split at h
        · rename_i l hh elem hl hb hel
          have hu := elemOfT_some hel
          split at h
          · rename_i hszs
            obtain ⟨hc, h⟩ := get_chk h
            obtain rfl := get_one h
            obtain ⟨h0, h1, h2⟩ := three_true hc
            simp only [decide_eq_true_eq] at h0 h1 h2
            cases hx.v_eq
            obtain ⟨sz, hsz⟩ := Option.isSome_iff_exists.1 hszs
            have e1 : l = 0 := by omega
            have e2 : hh = 0 := by omega
            subst e1; subst e2
            refine Pur.eff ⟨_, run_slice hu hsz hl hb vlo vho h0 h1 (by simp), ?_, rfl, rfl⟩ hR
            simp
            exact V_v _
          · simp [Tree.get] at h
        · simp [Tree.get] at h
      · rename_i sz n f
        split at h
        · rename_i l hh elem hl hb hel
          have hu := elemOfT_some hel
          split at h
          · rename_i hsz
            obtain ⟨hc, h⟩ := get_chk h
            obtain rfl := get_one h
            obtain ⟨h0, h1, h2⟩ := three_true hc
            simp only [decide_eq_true_eq] at h0 h1 h2
            cases hx with
            | base hx =>
              cases hx with
              | sl _ _ _ ad cap ys hs hnc hlen hm ho hv =>
                refine Pur.eff ⟨_, run_slice hu hsz hl hb vlo vho h0 h1 (by omega), ?_, rfl, rfl⟩ hR
                by_cases hcl : cap = l.toNat
                · have : hh.toNat - l.toNat = 0 := by omega
                  rw [if_pos hcl]
                  exact .base (.slnil _ _ _ _ _ (fun e => hlen _) this (fun hA => by simp at hA))
                · rw [if_neg hcl]
                  refine .base (.sl sz _ _ (ad.add (l.toNat * sz)) _ (fun e j => ys (l.toNat + e) j) (by rw [Addr.add_none hs]) (by omega) (fun e => hlen _) (fun e j c he hc => ?_) (fun e j c he hc => ho _ _ c (by omega) hc) (fun e j c he hc => hv _ _ c (by omega) hc))
                  rw [Addr.add_none hs]
                  have := hm (l.toNat + e) j c (by omega) hc
                  rw [Nat.add_mul] at this
                  rw [← this]
                  show σ ad.block (ad.off + l.toNat * sz + e * sz + j) = σ ad.block (ad.off + (l.toNat * sz + e * sz) + j)
                  congr 1; omega
              | slnil _ _ _ A cap hlen hn0 ha =>
                subst hn0
                refine Pur.eff ⟨_, run_slice hu hsz hl hb vlo vho h0 h1 (by omega), ?_, rfl, rfl⟩ hR
                have : hh.toNat - l.toNat = 0 := by omega
                refine .base (.slnil _ _ _ _ _ (fun e => hlen _) this (fun hA => ?_))
                split at hA
                · exact ha hA
                · cases A with
                  | none => exact ha rfl
                  | some _ => simp at hA
          · simp [Tree.get] at h
        · simp [Tree.get] at h
      · rename_i id e n
        split at h
        · rename_i sz N f l hh elem hg hl hb hel
          have hu := elemOfT_some hel
          split at h
          · rename_i hsz
            obtain ⟨hc, h⟩ := get_chk h
            obtain rfl := get_one h
            obtain ⟨h0, h1, h2⟩ := three_true hc
            simp only [decide_eq_true_eq] at h0 h1
            cases hx with
            | base hx => cases hx
            | @hs _ _ _ cap L hL hr hnc he hxx hcc =>
              obtain ⟨e1, e2, _⟩ := hR.obj id _ L hg hL hr
              have h2' : e + hh.toNat ≤ L.n := by
                cases ip
                · simp at h2; omega
                · simp at h2; omega
              refine Pur.eff ⟨_, run_slice hu hsz hl hb vlo vho h0 h1 (by omega), ?_, rfl, rfl⟩ hR
              by_cases hcl : cap = l.toNat
              · have e3 : hh.toNat - l.toNat = 0 := by omega
                rw [if_pos hcl, e3, show cap - l.toNat = 0 by omega]
                exact .hsnil _ hL (by omega) rfl
              · rw [if_neg hcl]
                have haddr : (Option.map (·.add (l.toNat * sz)) (some (⟨L.b, L.base + e * L.sz, none⟩ : Addr))) = some ⟨L.b, L.base + (e + l.toNat) * L.sz, none⟩ := by
                  rw [Option.map_some, Addr.add_none rfl, e1, Nat.add_mul, Nat.add_assoc]
                rw [haddr]
                refine .hs hL hr (by omega) (by omega) (by omega) ?_
                have : (cap - l.toNat) * L.sz + l.toNat * L.sz = cap * L.sz := by rw [← Nat.add_mul]; congr 1; omega
                rw [Nat.add_mul]; omega
            | hsnil A hL he hn0 =>
              subst hn0
              cases ip with
              | true =>
                simp at h2
                have hN := hR.len id _ _ _ _ hg hL
                have e1 : l = 0 := by omega
                have e2 : hh = 0 := by omega
                subst e1; subst e2
                refine Pur.eff ⟨_, run_slice hu hsz hl hb vlo vho h0 h1 (by simp), ?_, rfl, rfl⟩ hR
                simp
                exact .hsnil _ hL he rfl
              | false =>
                simp at h2
                have e1 : l = 0 := by omega
                have e2 : hh = 0 := by omega
                subst e1; subst e2
                refine Pur.eff ⟨_, run_slice hu hsz hl hb vlo vho h0 h1 (by simp), ?_, rfl, rfl⟩ hR
                simp
                exact .hsnil _ hL he rfl
          · simp [Tree.get] at h
        · simp [Tree.get] at h
      · rename_i id
        split at h
        · rename_i sz n f len elem hg ha
          have hu := arrOfT_some ha
          split at h
          · rename_i l hh hl hb
            split at h
            · rename_i hcond
              obtain ⟨hsz, rfl⟩ := hcond
              obtain ⟨hc, h⟩ := get_chk h
              obtain rfl := get_one h
              obtain ⟨h0, h1, h2⟩ := three_true hc
              simp only [decide_eq_true_eq] at h0 h1 h2
              cases hx with
              | base hx => cases hx
              | @ap _ L hL hr =>
                obtain ⟨e1, e2, c, hrow, hcs, hbd, _⟩ := hR.obj id _ L hg hL hr
                have hrun : (Instr.sliceAt t (.pointer (some ⟨L.b, L.base, none⟩)) vl vh none).run P w =
                    .ok (.slice (some (if n = l.toNat then (⟨L.b, L.base, none⟩ : Addr) else (⟨L.b, L.base, none⟩ : Addr).add (l.toNat * sz))) (hh.toNat - l.toNat) (n - l.toNat)) w := by
                  unfold Instr.sliceAt
                  simp only [Sem.run_bind, run_underlying hu, Result.andThen_ok, Instr.sureAddr, Sem.run_pure, run_sliceBounds hl hb vlo vho h0 h1 h2, run_sizeOf hsz]
                refine Pur.eff ⟨_, hrun, ?_, rfl, rfl⟩ hR
                by_cases hcl : n = l.toNat
                · have e3 : hh.toNat - l.toNat = 0 := by omega
                  rw [if_pos hcl, e3, show n - l.toNat = 0 by omega]
                  exact .hsnil _ hL (by omega) rfl
                · rw [if_neg hcl, Addr.add_none rfl, e1]
                  refine .hs hL hr (by omega) (by omega) (by omega) ?_
                  have : (n - l.toNat) * L.sz + l.toNat * L.sz = n * L.sz := by rw [← Nat.add_mul]; congr 1; omega
                  rw [e1] at hbd; omega
            · simp [Tree.get] at h
          · simp [Tree.get] at h
        · simp [Tree.get] at h
      · simp [Tree.get] at h
end
end Go.Eng
