/- An abstract evaluator of the model's code, part L: append, copy, clear. -/
import Derived.Test.YtnpfcaecaflfbaaDoorEngK
namespace Go.Eng
open Go
set_option linter.unusedSimpArgs false
set_option linter.unusedVariables false

section
variable {P : Program} {κ : Ctx} {σ : Store} {φ : Places} {get : Get} {w : World} {out : OpOut} {nb : Nat} {ip : Bool}

/-- a new row whose first 'n' elements are known -/
theorem blk_new {w' : World} {sz n : Nat} {f : Nat → List AV} {ys : List Value} {rest : Array Value} {T : TypeId} {fr : Nat × Nat}
    (hheap : w'.heap = w.heap.push (.cells (ys.toArray ++ rest) T fr)) (hfr : ∀ o, o < (ys.toArray ++ rest).size → (decide (fr.1 ≤ o) && decide (o < fr.2)) = false)
    (hs : Src σ ys sz n f) {φ' : Places} :
    blkAt σ φ' w' ⟨w.heap.size, 0, sz, (ys.toArray ++ rest).size, n, false⟩ (.arr sz n f) := by
  refine ⟨rfl, rfl, ys.toArray ++ rest, ⟨T, fr, by rw [hheap]; simp, hfr⟩, rfl, ?_, fun e he => ⟨hs.2.1 e, fun j x hx => ?_⟩⟩
  · have := hs.1; simp; omega
  · obtain ⟨y, hy, hv⟩ := hs.2.2.2 e he j x hx
    have hlt := (List.getElem?_eq_some_iff.1 hy).1
    refine ⟨y, ?_, hs.2.2.1 y (List.mem_of_getElem? hy), hv⟩
    show (ys.toArray ++ rest)[0 + e * sz + j]? = some y
    rw [Nat.zero_add, Array.getElem?_append_left (by simpa using hlt)]
    simpa using hy

theorem src_append {ys zs : List Value} {sz n k : Nat} {f g : Nat → List AV} (h1 : Src σ ys sz n f) (h2 : Src σ zs sz k g) :
    Src σ (ys ++ zs) sz (n + k) fun j => mixL (decide (j < n)) (f j) (g (j - n)) := by
  obtain ⟨l1, w1, o1, c1⟩ := h1
  obtain ⟨l2, w2, o2, c2⟩ := h2
  have hw : ∀ e, (mixL (decide (e < n)) (f e) (g (e - n))).length = sz := fun e => by rw [mixL_len (by rw [w1, w2]), w1]
  refine ⟨by simp [l1, l2, Nat.add_mul], hw, fun y hy => ?_, fun e he j c hc => ?_⟩
  · rcases List.mem_append.1 hy with h | h
    · exact o1 y h
    · exact o2 y h
  · obtain ⟨a, b, ha, hb, rfl⟩ := mixL_get hc
    have hj : j < sz := by have := (List.getElem?_eq_some_iff.1 ha).1; rw [w1] at this; exact this
    by_cases hlt : e < n
    · obtain ⟨y, hy, hv⟩ := c1 e hlt j a ha
      refine ⟨y, ?_, mix_ok0 (by rw [decide_eq_true hlt]; exact hv)⟩
      have := (List.getElem?_eq_some_iff.1 hy).1
      rw [List.getElem?_append_left this]; exact hy
    · obtain ⟨y, hy, hv⟩ := c2 (e - n) (by omega) j b hb
      refine ⟨y, ?_, mix_ok0 (by rw [decide_eq_false hlt]; exact hv)⟩
      have hge : n * sz ≤ e * sz := Nat.mul_le_mul_right _ (by omega)
      rw [List.getElem?_append_right (by rw [l1]; omega), l1]
      rw [← hy]; congr 1
      rw [Nat.sub_mul]; omega

theorem src_same {ys : List Value} {sz n : Nat} {f : Nat → List AV} (h : Src σ ys sz n f) {n' : Nat} (e : n' = n) : Src σ ys sz n' f := by subst e; exact h

/-- what the row of an own slice holds -/
theorem own_src {id e n : Nat} {L : Lc} {sz N : Nat} {f : Nat → List AV} (hR : R κ σ φ get w) (hg : get id = some (.arr sz N f)) (hL : φ id = some L) (hr : L.virt = false) (he : e + n ≤ L.n) :
    ∃ c, World.row w L.b c ∧ c.size = L.size ∧ sz = L.sz ∧ N = L.n ∧ L.base + N * sz ≤ c.size ∧
      (∀ k, k < N → ∀ (j : Nat) (x : AV), (f k)[j]? = some x → ∃ y, c[L.base + k * sz + j]? = some y ∧ y.oneCell' = true ∧ V0 σ x y) := by
  obtain ⟨e1, e2, c, hrow, hcs, hbd, hc⟩ := hR.obj id _ L hg hL hr
  exact ⟨c, hrow, hcs, e1, e2, by rw [e1, e2] at *; exact hbd, fun k hk j x hx => by subst e1; exact (hc k (by omega)).2 j x hx⟩

theorem own_append {id e n k cap : Nat} {L : Lc} {sz N : Nat} {f g : Nat → List AV} {ys : List Value} (hR : R κ σ φ get w) (hg : get id = some (.arr sz N f)) (hL : φ id = some L) (hr : L.virt = false)
    (he : e + n ≤ L.n) (hcc : L.base + e * L.sz + cap * L.sz ≤ L.size) (hk : n + k ≤ cap) (hS : Src σ ys sz k g) :
    ∃ c, World.row w L.b c ∧ c.size = L.size ∧ sz = L.sz ∧ L.base + e * sz + n * sz + ys.length ≤ c.size ∧
      ∀ {σ' : Store} {φ' : Places}, σ.le σ' →
        blkAt σ' φ' (putRow w L.b (splice c (L.base + e * sz + n * sz) ys)) ⟨L.b, L.base + e * sz, sz, L.size, n + k, false⟩ (.arr sz (n + k) fun j => mixL (decide (j < n)) (f (e + j)) (g (j - n))) := by
  obtain ⟨c, hrow, hcs, rfl, rfl, hbd, hc⟩ := own_src hR hg hL hr he
  have hkk : (n + k) * L.sz ≤ cap * L.sz := Nat.mul_le_mul_right _ hk
  rw [Nat.add_mul] at hkk
  have hlen := hS.1
  have hfit : L.base + e * L.sz + n * L.sz + ys.length ≤ c.size := by omega
  refine ⟨c, hrow, hcs, rfl, hfit, fun {σ' φ'} hs => ⟨rfl, rfl, _, row_put hrow (splice_size _ _ _), by rw [splice_size]; exact hcs, ?_, fun j hj => ?_⟩⟩
  · rw [splice_size]; show L.base + e * L.sz + (n + k) * L.sz ≤ c.size; rw [Nat.add_mul]; omega
  · have hwf := hR.wf id _ hg
    refine ⟨by rw [mixL_len (by rw [hwf, hS.2.1]), hwf], fun i x hx => ?_⟩
    obtain ⟨a, b, ha, hb, rfl⟩ := mixL_get hx
    have hi : i < L.sz := by have := (List.getElem?_eq_some_iff.1 hb).1; rw [hS.2.1] at this; exact this
    show ∃ y, (splice c (L.base + e * L.sz + n * L.sz) ys)[L.base + e * L.sz + j * L.sz + i]? = some y ∧ _
    rw [splice_get _ _ _ _ hfit]
    by_cases hlt : j < n
    · have : (j + 1) * L.sz ≤ n * L.sz := Nat.mul_le_mul_right _ hlt
      rw [Nat.succ_mul] at this
      rw [if_neg (by omega)]
      obtain ⟨y, hy, ho, hv⟩ := hc (e + j) (by omega) i a ha
      refine ⟨y, ?_, ho, mix_ok0 (by rw [decide_eq_true hlt]; exact hv.mono hs)⟩
      rw [← hy]; congr 1; rw [Nat.add_mul]; omega
    · obtain ⟨y, hy, hv⟩ := hS.2.2.2 (j - n) (by omega) i b hb
      have hge : n * L.sz ≤ j * L.sz := Nat.mul_le_mul_right _ (by omega)
      have hle : (j + 1) * L.sz ≤ (n + k) * L.sz := Nat.mul_le_mul_right _ (by omega)
      rw [Nat.succ_mul, Nat.add_mul] at hle
      rw [if_pos (by omega)]
      refine ⟨y, ?_, hS.2.2.1 y (List.mem_of_getElem? hy), mix_ok0 (by rw [decide_eq_false hlt]; exact hv.mono hs)⟩
      rw [← hy]; congr 1; rw [Nat.sub_mul]; omega

theorem fresh_at {L : Lc} : fresh φ nb L nb = some L := by simp [fresh]
/-- an own block is written and goes over to a new number -/
theorem R.moveW (h : R κ σ φ get w) {i : Nat} {L L' : Lc} {blk : Blk} {w' : World} {c' : Array Value} (hi : φ i = some L) (hr : L.virt = false) (hg : (get i).isSome) (hn : φ nb = none) (hb : L'.b = L.b)
    (hrow : World.row w' L.b c') (hcs : c'.size = L.size) (hbase : L.base ≤ L.size)
    (hw : ∀ b', b' ≠ L.b → w'.heap[b']? = w.heap[b']?) (hsz : w'.heap.size = w.heap.size) (ht : w'.tape = w.tape) (ho : w'.os = w.os) (hu : w'.output = w.output)
    (hblk : ∀ φ' : Places, φ.le φ' → blkAt σ φ' w' L' blk) (hwf : blkWf blk) (hlen : ∀ sz n f, blk = .arr sz n f → n = L'.n) : R κ σ (fresh φ nb L') (updG (updG get i none) nb (some blk)) w' := by
  have h1 := h.write (b := some (.row [])) hi hr hg hw hsz ht ho hu (fun b hb' => by
    simp at hb'; subst hb'
    exact ⟨c', hrow, hcs, by simp; omega, fun j x hx => by simp at hx⟩) (fun b hb' => by simp at hb'; subst hb'; trivial) (fun _ _ _ h' => by simp at h')
  have h2 := h1.move hi hr (by simp [updG]) hn hb hblk hwf hlen
  have e : updG (updG (updG get i (some (.row []))) i none) nb (some blk) = updG (updG get i none) nb (some blk) := by
    funext k
    simp only [updG]
    split
    · rfl
    · split <;> rfl
  rw [e] at h2
  exact h2

theorem append_ok {ts : Array TypeId} {rt : TypeId} {s x : AV} {vs vx : Value} (h : (appendE P ip nb get ts s x).get = some out) (hs : V σ φ s vs) (hx : V σ φ x vx)
    (hR : R κ σ φ get w) (hn : ∀ k, nb ≤ k → k < nb + out.new.length → φ k = none) : Eff P κ σ φ nb get w (Builtin.append_ ts rt #[vs, vx]) out := by
  unfold appendE at h
  split at h
  · rename_i t tx h0 h1
    split at h
    · rename_i elem hel
      have hu := elemOfT_some hel
      split at h
      · rename_i sz bytes tu hsz hby htu
        split at h
        · simp [Tree.get] at h
        · rename_i hcond
          simp only [Bool.or_eq_false_iff] at hcond
          obtain ⟨hni, hzs⟩ := hcond
          have hni' : ∀ k, tu ≠ .int k := by intro k hk; subst hk; simp [isIntD] at hni
          obtain ⟨zv, hzsz, hzr'⟩ : ∃ zv : Value, zv.cells.size = sz ∧ ∀ w', (zeroValue elem).run P w' = .ok zv w' := by
            unfold zeroLenOk zeroOf at hzs
            cases hi : P.info? elem with
            | none => simp [hi] at hzs
            | some i =>
              cases hzo : i.zero with
              | none => simp [hi, hzo] at hzs
              | some v0 => exact ⟨v0, Nat.eq_of_beq_eq_true (by simpa [hi, hzo] using hzs), fun w' => by simp [zeroValue, run_typeInfo hi, hzo]⟩
          -- what append does where there is room
          have room : ∀ (base : Option Addr) (sLen sCap k : Nat) (ys : List Value) (w' : World), vs = .slice base sLen sCap → (Builtin.lenOf vx).run P w = .ok k w →
              (Builtin.firstCells sz k vx).run P w = .ok ys.toArray w → sLen + k ≤ sCap →
              (match base with
                | some a => (storeCells (a.add (sLen * sz)) ys).run P w = .ok () w'
                | none => w' = w) →
              (Builtin.append_ ts rt #[vs, vx]).run P w = .ok (.slice base (sLen + k) sCap) w' := by
            intro base sLen sCap k ys w' hvs hlen hfc hle hst
            subst hvs
            unfold Builtin.append_
            simp only [h0, h1, show (#[Value.slice base sLen sCap, vx] : Array Value)[0]? = some (.slice base sLen sCap) from rfl, show (#[Value.slice base sLen sCap, vx] : Array Value)[1]? = some vx from rfl,
              Sem.run_bind, run_underlying hu, Result.andThen_ok, run_sizeOf hsz, run_underlying htu, Sem.run_pure]
            cases tu <;> first | exact absurd rfl (hni' _) | skip
            all_goals
              simp only [Bool.false_eq_true, if_false, Sem.run_bind, hlen, Result.andThen_ok, Sem.run_ite, hle, if_true, Bool.not_false, hfc]
              cases base with
              | none => simp only at hst; subst hst; simp
              | some a => simp only at hst ⊢; simp [hst]
          unfold appendC at h
          split at h
          · -- nothing is appended
            rename_i hnx
            have hvx : vx = .slice none 0 0 := by
              unfold isNilS at hnx
              split at hnx
              · exact hx.v_eq
              · simp at hnx
            subst hvx
            split at h
            · rename_i hns
              obtain rfl := get_one h
              have hvs : vs = .slice none 0 0 := by
                unfold isNilS at hns
                split at hns
                · exact hs.v_eq
                · simp at hns
              subst hvs
              exact Pur.eff ⟨_, room none 0 0 0 [] w rfl rfl rfl (by omega) rfl, V_v _, rfl, rfl⟩ hR
            · split at h
              · rename_i id e n _
                obtain rfl := get_one h
                cases hs with
                | base h0' => cases h0'
                | @hs _ _ _ cap L hL hr hnc he hxx hcc =>
                  refine Pur.eff ⟨_, room (some ⟨L.b, L.base + e * L.sz, none⟩) n cap 0 [] w rfl rfl rfl (by omega) (by simp [storeCells]), ?_, rfl, rfl⟩ hR
                  exact .hs hL hr hnc he hxx hcc
                | hsnil A hL he hn0 =>
                  subst hn0
                  refine Pur.eff ⟨_, room A 0 0 0 [] w rfl rfl rfl (by omega) (by cases A <;> simp [storeCells]), ?_, rfl, rfl⟩ hR
                  exact .hsnil A hL he rfl
              · simp [Tree.get] at h
          · -- something is
            split at h
            · rename_i k g hsrc
              split at h
              · rename_i hsrcsz
                obtain ⟨hlen, hcells⟩ := source_ok hsrc hsrcsz hx hR
                have hlenAll : ∀ w', (Builtin.lenOf vx).run P w' = .ok k w' := by
                  intro w'
                  revert hlen
                  cases vx <;> simp [Builtin.lenOf]
                obtain ⟨ys, hysAll, hS⟩ := hcells k (Nat.le_refl k)
                have hys := hysAll w rfl
                -- a new row behind an empty slice
                have empty : ∀ (A : Option Addr) (k' : Nat) (g' : Nat → List AV), vs = .slice A 0 0 → k' = k → Src σ ys sz k' g' → roomOk bytes k = true → φ nb = none → ∀ (upd : List (Nat × Option Blk)),
                    R κ σ φ (updGs get upd) w → Eff P κ σ φ nb get w (Builtin.append_ ts rt #[vs, vx]) { val := .hs nb 0 k', upd := upd, new := [.arr sz k' g'] } := by
                  intro A k' g' hvs hkk hS' hroom hnb upd hRu
                  subst hvs
                  subst hkk
                  by_cases hk0 : k' = 0
                  · subst hk0
                    have hl0 : ys = [] := List.eq_nil_of_length_eq_zero (by have := hS'.1; omega)
                    subst hl0
                    refine ⟨_, w, fresh φ nb ⟨0, 0, sz, 0, 0, true⟩, room A 0 0 0 [] w rfl hlen hys (by omega) (by cases A <;> simp [storeCells]), fresh_le hnb _,
                      fun j hj hjj => fresh_none (m := 0) hj (by simpa using hjj), .hsnil (L := ⟨0, 0, sz, 0, 0, true⟩) A fresh_at (Nat.le_refl 0) rfl, ?_⟩
                    exact hRu.virtual hnb rfl _ (fun b' hb' => by simp at hb'; subst hb'; exact hS'.2.1) (fun _ _ _ h' => by cases h'; rfl)
                  · obtain ⟨nc, rest, w', h2, h3, h4, h5, h6, h7, h8⟩ := run_append_new (P := P) (w := w) (rt := rt) (base := A) (sLen := 0) (sCap := 0) (old := []) h0 h1 hu hsz hby (hzr' w) hzr' htu hni' (by simpa using hroom) hlenAll (by omega)
                      (fun w' _ => by cases A <;> simp [Builtin.firstCells, loadCells, loadCellsFrom]) hysAll
                    simp only [Nat.zero_add] at h2 h3 h4 h5
                    have h5' : w'.heap = w.heap.push (.cells (ys.toArray ++ rest) elem) := by simpa using h5
                    refine ⟨_, w', fresh φ nb ⟨w.heap.size, 0, sz, (ys.toArray ++ rest).size, k', false⟩, h4, fresh_le hnb _, fun j hj hjj => fresh_none (m := 0) hj (by simpa using hjj), ?_, ?_⟩
                    · have := V.hs (σ := σ) (e := 0) (n := k') (cap := nc) (fresh_at (φ := φ) (nb := nb) (L := ⟨w.heap.size, 0, sz, (ys.toArray ++ rest).size, k', false⟩)) rfl h2 (by simp) (by simpa using h2) (by
                        have hyl := hS'.1
                        rw [hzsz] at h3
                        simp only [Array.size_append, List.size_toArray, Nat.zero_mul, Nat.zero_add]
                        rw [h3, hyl, ← Nat.add_mul]
                        exact Nat.le_of_eq (congrArg (· * sz) (by omega)))
                      simpa using this
                    · exact hRu.new hnb h5' rfl h6 h7 h8 (fun φ' hle => blk_new h5' (fun o _ => by simp) hS') hS'.2.1 (fun _ _ _ h' => by cases h'; rfl)
                split at h
                · rename_i hns
                  obtain ⟨hroom, h⟩ := get_chk h
                  simp only [Tree.get, Option.some.injEq] at h
                  subst h
                  have hvs : vs = .slice none 0 0 := by
                    unfold isNilS at hns
                    split at hns
                    · exact hs.v_eq
                    · simp at hns
                  exact empty none k g hvs rfl hS hroom (hn nb (Nat.le_refl _) (by simp)) [] hR
                · split at h
                  · rename_i id e n _
                    split at h
                    · rename_i sz' N f hg
                      split at h
                      · rename_i hsz'
                        subst hsz'
                        split at h
                        · -- in place, for sure
                          split at h
                          case isFalse => simp [Tree.get] at h
                          rename_i hsame
                          obtain ⟨hle, h⟩ := get_chk h
                          simp only [decide_eq_true_eq] at hle
                          simp only [Tree.get, Option.some.injEq] at h
                          subst h
                          have hwf := hR.wf id _ hg
                          cases hs with
                          | base h0' => cases h0'
                          | @hs _ _ _ cap L hL hr hnc he hxx hcc =>
                            obtain ⟨c, hrow, hcs, hsL, hNL, hbd, hc⟩ := own_src hR hg hL hr he
                            subst hsL; subst hNL
                            have hk : n + k ≤ cap := by omega
                            have hyl := hS.1
                            have hmul : (e + n + k) * L.sz ≤ L.n * L.sz := Nat.mul_le_mul_right _ hle
                            rw [Nat.add_mul, Nat.add_mul] at hmul
                            have hfit : L.base + e * L.sz + n * L.sz + ys.length ≤ c.size := by omega
                            have hst := run_storeCells (P := P) (a := (⟨L.b, L.base + e * L.sz, none⟩ : Addr).add (n * L.sz)) (by rw [Addr.add_none rfl]) ys hS.2.2.1 0 w c (by rw [Addr.add_none rfl]; exact hrow)
                              (by rw [Addr.add_none rfl]; simpa using hfit)
                            rw [Addr.add_none rfl] at hst
                            simp only [Nat.add_zero] at hst
                            have hrm := room (some ⟨L.b, L.base + e * L.sz, none⟩) n cap k ys (putRow w L.b (splice c (L.base + e * L.sz + n * L.sz) ys)) rfl hlen hys hk (by
                              show (storeCells ((⟨L.b, L.base + e * L.sz, none⟩ : Addr).add (n * L.sz)) ys).run P w = _
                              rw [Addr.add_none rfl]; exact hst)
                            refine ⟨_, _, φ, hrm, Places.le_refl φ, fun j hj _ => hj, .hs hL hr hk (by omega) hxx hcc, ?_⟩
                            refine hR.write hL hr (by simp [hg]) (fun b' hb' => putRow_other hb') putRow_size rfl rfl rfl ?_ (fun blk hblk => by
                              simp at hblk; subst hblk; intro j; rw [mixL_len (by rw [hwf, hS.2.1]), hS.2.1]) (fun _ _ _ h' => by cases h'; rfl)
                            intro blk hblk
                            simp only [Option.some.injEq] at hblk
                            subst hblk
                            refine ⟨rfl, rfl, _, row_put hrow (splice_size _ _ _), by rw [splice_size]; exact hcs, by rw [splice_size]; exact hbd, fun j hj => ⟨by rw [mixL_len (by rw [hwf, hS.2.1]), hS.2.1], fun i x hx => ?_⟩⟩
                            obtain ⟨a, b, ha, hb, rfl⟩ := mixL_get hx
                            have hi : i < L.sz := by have := (List.getElem?_eq_some_iff.1 ha).1; rw [hS.2.1] at this; exact this
                            rw [splice_get _ _ _ _ hfit]
                            by_cases hin : e + n ≤ j ∧ j < e + n + k
                            · obtain ⟨y, hy, hv⟩ := hS.2.2.2 (j - (e + n)) (by omega) i a ha
                              have h1' : (e + n) * L.sz ≤ j * L.sz := Nat.mul_le_mul_right _ hin.1
                              have h2' : (j + 1) * L.sz ≤ (e + n + k) * L.sz := Nat.mul_le_mul_right _ hin.2
                              rw [Nat.succ_mul, Nat.add_mul, Nat.add_mul] at h2'
                              rw [Nat.add_mul] at h1'
                              rw [if_pos (by omega)]
                              refine ⟨y, ?_, hS.2.2.1 y (List.mem_of_getElem? hy), mix_ok0 (by simp only [decide_eq_true hin.1, decide_eq_true hin.2]; exact hv)⟩
                              rw [← hy]; congr 1; rw [Nat.sub_mul, Nat.add_mul]; omega
                            · obtain ⟨y, hy, ho, hv⟩ := hc j hj i b hb
                              have hout : ¬ (L.base + e * L.sz + n * L.sz ≤ L.base + j * L.sz + i ∧ L.base + j * L.sz + i < L.base + e * L.sz + n * L.sz + ys.length) := by
                                by_cases hlt : j < e + n
                                · have : (j + 1) * L.sz ≤ (e + n) * L.sz := Nat.mul_le_mul_right _ hlt
                                  rw [Nat.succ_mul, Nat.add_mul] at this; omega
                                · have : (e + n + k) * L.sz ≤ j * L.sz := Nat.mul_le_mul_right _ (by omega)
                                  rw [Nat.add_mul, Nat.add_mul] at this; omega
                              rw [if_neg hout]
                              refine ⟨y, hy, ho, mix_ok0 ?_⟩
                              have : (decide (e + n ≤ j) && decide (j < e + n + k)) = false := by simp; omega
                              rw [this]; exact hv
                          | hsnil A hL he0 hn0 =>
                            subst hn0
                            -- what is appended lies in the same block: it is empty
                            have hk0 : k = 0 := by
                              unfold sameBlk at hsame
                              split at hsame
                              · rename_i j e2 n2
                                have hj := Nat.eq_of_beq_eq_true hsame
                                subst hj
                                simp only [source, hg, Option.some.injEq, Prod.mk.injEq] at hsrc
                                cases hx with
                                | base h0' => cases h0'
                                | hs hL2 hr2 hn2 he2 hx2 hc2 =>
                                  rw [hL] at hL2
                                  have := Option.some.inj hL2
                                  subst this
                                  obtain ⟨e1, e2', _⟩ := hR.obj _ _ _ hg hL hr2
                                  omega
                                | hsnil A' hL2 he2 hn2 => omega
                              · simp at hsame
                            subst hk0
                            have hl0 : ys = [] := List.eq_nil_of_length_eq_zero (by have := hS.1; omega)
                            subst hl0
                            refine ⟨_, w, φ, room A 0 0 0 [] w rfl hlen hys (by omega) (by cases A <;> simp [storeCells]), Places.le_refl φ, fun j hj _ => hj, .hsnil A hL he0 rfl, ?_⟩
                            refine hR.weak hg (fun K hK => ?_) (fun j => by rw [mixL_len (by rw [hwf, hS.2.1]), hS.2.1]) (fun _ _ _ h' => by cases h'; exact ⟨_, _, rfl⟩)
                            obtain ⟨k1, k2, c, hrow, hcs, hbd, hc⟩ := hK
                            refine ⟨k1, k2, c, hrow, hcs, hbd, fun j hj => ⟨by rw [mixL_len (by rw [hwf, hS.2.1]), hS.2.1], fun i x hx => ?_⟩⟩
                            obtain ⟨a, b, ha, hb, rfl⟩ := mixL_get hx
                            obtain ⟨y, hy, ho, hv⟩ := (hc j hj).2 i b hb
                            refine ⟨y, hy, ho, mix_ok0 ?_⟩
                            have : (decide (e + 0 ≤ j) && decide (j < e + 0 + 0)) = false := by simp
                            rw [this]; exact hv
                        · obtain ⟨hroom, h⟩ := get_chk h
                          simp only [Tree.get, Option.some.injEq] at h
                          subst h
                          have hnb := hn nb (Nat.le_refl _) (by simp)
                          have hwf := hR.wf id _ hg
                          have hwf' : ∀ j, (mixL (decide (j < n)) (f (e + j)) (g (j - n))).length = sz' := fun j => by rw [mixL_len (by rw [hwf, hS.2.1]), hwf]
                          cases hs with
                          | base h0' => cases h0'
                          | @hs _ _ _ cap L hL hr hnc he hxx hcc =>
                            by_cases hk : n + k ≤ cap
                            · obtain ⟨c, hrow, hcs, hsL, hfit, hblk⟩ := own_append hR hg hL hr he hcc hk hS
                              subst hsL
                              have hone := hS.2.2.1
                              have hst := run_storeCells (P := P) (a := (⟨L.b, L.base + e * L.sz, none⟩ : Addr).add (n * L.sz)) (by rw [Addr.add_none rfl]) ys hone 0 w c (by rw [Addr.add_none rfl]; exact hrow)
                                (by rw [Addr.add_none rfl]; simpa using hfit)
                              rw [Addr.add_none rfl] at hst
                              simp only [Nat.add_zero] at hst
                              have hbase : L.base ≤ L.size := by omega
                              have hrm := room (some ⟨L.b, L.base + e * L.sz, none⟩) n cap k ys (putRow w L.b (splice c (L.base + e * L.sz + n * L.sz) ys)) rfl hlen hys hk (by
                                show (storeCells ((⟨L.b, L.base + e * L.sz, none⟩ : Addr).add (n * L.sz)) ys).run P w = _
                                rw [Addr.add_none rfl]; exact hst)
                              refine ⟨_, _, fresh φ nb ⟨L.b, L.base + e * L.sz, L.sz, L.size, n + k, false⟩, hrm, fresh_le hnb _,
                                fun j hj hjj => fresh_none (m := 0) hj (by simpa using hjj), ?_, ?_⟩
                              · have := V.hs (σ := σ) (e := 0) (n := n + k) (cap := cap) (fresh_at (φ := φ) (nb := nb) (L := ⟨L.b, L.base + e * L.sz, L.sz, L.size, n + k, false⟩)) rfl hk (by simp) (by simpa using hk) (by simpa using hcc)
                                simpa using this
                              · exact hR.moveW hL hr (by simp [hg]) hnb rfl (row_put hrow (splice_size _ _ _)) (by rw [splice_size]; exact hcs) hbase (fun b' hb' => putRow_other hb') putRow_size rfl rfl rfl
                                  (fun φ' _ => hblk (Store.le_refl σ)) hwf' (fun _ _ _ h' => by cases h'; rfl)
                            · -- a new row
                              have hsrc0 : source get (.hs id e n) = some (n, fun j => f (e + j)) := by simp [source, hg]
                              have hsz0 : srcSz get (.hs id e n) = some sz' := by simp [srcSz, hg]
                              obtain ⟨_, hold⟩ := source_ok (P := P) hsrc0 hsz0 (.hs hL hr hnc he hxx hcc) hR
                              obtain ⟨old, hold, hSo⟩ := hold n (Nat.le_refl n)
                              obtain ⟨nc, rest, w', h2, h3, h4, h5, h6, h7, h8⟩ := run_append_new (P := P) (w := w) (rt := rt) (base := some ⟨L.b, L.base + e * L.sz, none⟩) (sLen := n) (sCap := cap) (old := old) h0 h1 hu hsz hby (hzr' w) hzr' htu hni' hroom hlenAll (by omega)
                                (fun w' hw' => by have := hold w' hw'; exact this) hysAll
                              have hSS := src_append hSo hS
                              have h5' : w'.heap = w.heap.push (.cells ((old ++ ys).toArray ++ rest) elem) := by simpa using h5
                              have hRd : R κ σ φ (updG get id none) w := hR.drop fun i b hb => by
                                by_cases e : i = id
                                · simp [updG, e] at hb
                                · simpa [updG, e] using hb
                              refine ⟨_, w', fresh φ nb ⟨w.heap.size, 0, sz', ((old ++ ys).toArray ++ rest).size, n + k, false⟩, h4, fresh_le hnb _, fun j hj hjj => fresh_none (m := 0) hj (by simpa using hjj), ?_, ?_⟩
                              · have := V.hs (σ := σ) (e := 0) (n := n + k) (cap := nc) (fresh_at (φ := φ) (nb := nb) (L := ⟨w.heap.size, 0, sz', ((old ++ ys).toArray ++ rest).size, n + k, false⟩)) rfl h2 (by simp) (by simpa using h2) (by
                                  have hyl := hSS.1
                                  rw [hzsz] at h3
                                  simp only [Array.size_append, List.size_toArray, Nat.zero_mul, Nat.zero_add]
                                  rw [h3, hyl, ← Nat.add_mul]
                                  exact Nat.le_of_eq (congrArg (· * sz') (by omega)))
                                simpa using this
                              · exact hRd.new hnb h5' rfl h6 h7 h8 (fun φ' hle => blk_new h5' (fun o _ => by simp) hSS) hSS.2.1 (fun _ _ _ h' => by cases h'; rfl)
                          | hsnil A _ _ hn0 =>
                            subst hn0
                            have hS0 : Src σ ([] : List Value) sz' 0 (fun j => f (e + j)) := ⟨by simp, fun j => hwf _, by simp, fun j hj => by omega⟩
                            have hSS := src_append hS0 hS
                            exact empty A (0 + k) _ rfl (Nat.zero_add k) (by simpa using hSS) (by simpa using hroom) hnb [(id, none)] (hR.drop fun i b hb => by
                              by_cases e : i = id
                              · simp [updGs, updG, e] at hb
                              · simpa [updGs, updG, e] using hb)
                      · simp [Tree.get] at h
                    · simp [Tree.get] at h
                  · simp [Tree.get] at h
              · simp [Tree.get] at h
            · simp [Tree.get] at h
      · simp [Tree.get] at h
    · simp [Tree.get] at h
  · simp [Tree.get] at h
end
end Go.Eng
