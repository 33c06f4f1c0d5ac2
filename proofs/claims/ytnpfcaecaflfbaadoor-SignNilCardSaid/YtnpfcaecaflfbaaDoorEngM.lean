/- An abstract evaluator of the model's code, part M: copy, clear, make, literals, conversions. -/
import Derived.Test.YtnpfcaecaflfbaaDoorEngL
namespace Go.Eng
open Go
set_option linter.unusedSimpArgs false
set_option linter.unusedVariables false

section
variable {P : Program} {κ : Ctx} {σ : Store} {φ : Places} {get : Get} {w : World} {out : OpOut} {nb : Nat} {ip : Bool}

def over (q m : Nat) (g f : Nat → List AV) : Nat → List AV := fun j => mixL (decide (q ≤ j) && decide (j < q + m)) (g (j - q)) (f j)

/-- 'm' elements of an own row are written from element 'q' on -/
theorem own_over {id q m : Nat} {L : Lc} {sz N : Nat} {f g : Nat → List AV} {ys : List Value} (hR : R κ σ φ get w) (hg : get id = some (.arr sz N f)) (hL : φ id = some L) (hr : L.virt = false)
    (hq : q + m ≤ L.n) (hS : Src σ ys sz m g) : ∃ w', (storeCells ⟨L.b, L.base + q * L.sz, none⟩ ys).run P w = .ok () w' ∧ R κ σ φ (updG get id (some (.arr sz N (over q m g f)))) w' := by
  obtain ⟨c, hrow, hcs, hsL, hNL, hbd, hc⟩ := own_src hR hg hL hr hq
  subst hsL; subst hNL
  have hyl := hS.1
  have hwf := hR.wf id _ hg
  have hmul : (q + m) * L.sz ≤ L.n * L.sz := Nat.mul_le_mul_right _ hq
  rw [Nat.add_mul] at hmul
  have hfit : L.base + q * L.sz + ys.length ≤ c.size := by omega
  have hst := run_storeCells (P := P) (a := (⟨L.b, L.base + q * L.sz, none⟩ : Addr)) rfl ys hS.2.2.1 0 w c hrow (by simpa using hfit)
  simp only [Nat.add_zero] at hst
  refine ⟨_, hst, ?_⟩
  refine hR.write hL hr (by simp [hg]) (fun b' hb' => putRow_other hb') putRow_size rfl rfl rfl ?_ (fun blk hblk => by
    simp at hblk; subst hblk; intro j; unfold over; rw [mixL_len (by rw [hwf, hS.2.1]), hS.2.1]) (fun _ _ _ h' => by cases h'; rfl)
  intro blk hblk
  simp only [Option.some.injEq] at hblk
  subst hblk
  refine ⟨rfl, rfl, _, row_put hrow (splice_size _ _ _), by rw [splice_size]; exact hcs, by rw [splice_size]; exact hbd, fun j hj => ⟨by unfold over; rw [mixL_len (by rw [hwf, hS.2.1]), hS.2.1], fun i x hx => ?_⟩⟩
  unfold over at hx
  obtain ⟨a, b, ha, hb, rfl⟩ := mixL_get hx
  have hi : i < L.sz := by have := (List.getElem?_eq_some_iff.1 ha).1; rw [hS.2.1] at this; exact this
  rw [splice_get _ _ _ _ hfit]
  by_cases hin : q ≤ j ∧ j < q + m
  · obtain ⟨y, hy, hv⟩ := hS.2.2.2 (j - q) (by omega) i a ha
    have h1' : q * L.sz ≤ j * L.sz := Nat.mul_le_mul_right _ hin.1
    have h2' : (j + 1) * L.sz ≤ (q + m) * L.sz := Nat.mul_le_mul_right _ hin.2
    rw [Nat.succ_mul, Nat.add_mul] at h2'
    rw [if_pos (by omega)]
    refine ⟨y, ?_, hS.2.2.1 y (List.mem_of_getElem? hy), mix_ok0 (by simp only [decide_eq_true hin.1, decide_eq_true hin.2]; exact hv)⟩
    rw [← hy]; congr 1; rw [Nat.sub_mul]; omega
  · obtain ⟨y, hy, ho, hv⟩ := hc j hj i b hb
    have hout : ¬ (L.base + q * L.sz ≤ L.base + j * L.sz + i ∧ L.base + j * L.sz + i < L.base + q * L.sz + ys.length) := by
      by_cases hlt : j < q
      · have : (j + 1) * L.sz ≤ q * L.sz := Nat.mul_le_mul_right _ hlt
        rw [Nat.succ_mul] at this; omega
      · have : (q + m) * L.sz ≤ j * L.sz := Nat.mul_le_mul_right _ (by omega)
        rw [Nat.add_mul] at this; omega
    rw [if_neg hout]
    refine ⟨y, hy, ho, mix_ok0 ?_⟩
    have : (decide (q ≤ j) && decide (j < q + m)) = false := by simp; omega
    rw [this]; exact hv

/-- nothing is written -/
theorem own_over0 {id q : Nat} {sz N : Nat} {f g : Nat → List AV} (hR : R κ σ φ get w) (hg : get id = some (.arr sz N f)) (hw : ∀ e, (g e).length = sz) :
    R κ σ φ (updG get id (some (.arr sz N (over q 0 g f)))) w := by
  have hwf := hR.wf id _ hg
  refine hR.weak hg (fun K hK => ?_) (fun j => by unfold over; rw [mixL_len (by rw [hwf, hw]), hw]) (fun _ _ _ h' => by cases h'; exact ⟨_, _, rfl⟩)
  obtain ⟨k1, k2, c, hrow, hcs, hbd, hc⟩ := hK
  refine ⟨k1, k2, c, hrow, hcs, hbd, fun j hj => ⟨by unfold over; rw [mixL_len (by rw [hwf, hw]), hw], fun i x hx => ?_⟩⟩
  unfold over at hx
  obtain ⟨a, b, ha, hb, rfl⟩ := mixL_get hx
  obtain ⟨y, hy, ho, hv⟩ := (hc j hj).2 i b hb
  refine ⟨y, hy, ho, mix_ok0 ?_⟩
  have : (decide (q ≤ j) && decide (j < q + 0)) = false := by simp
  rw [this]; exact hv

theorem src_take {ys : List Value} {sz k : Nat} {g : Nat → List AV} (h : Src σ ys sz k g) : Src σ ys sz k g := h

theorem copy_ok {ts : Array TypeId} {rt : TypeId} {d x : AV} {vd vx : Value} (h : (copyE P get ts d x).get = some out) (hd : V σ φ d vd) (hx : V σ φ x vx)
    (hR : R κ σ φ get w) : Eff P κ σ φ nb get w (Builtin.copy_ ts rt #[vd, vx]) out := by
  unfold copyE at h
  split at h
  · rename_i t h0
    split at h
    · rename_i elem hel
      have hu := elemOfT_some hel
      split at h
      · rename_i sz k g id e n hsz hsrc
        split at h
        · rename_i sz' N f hg
          split at h
          · rename_i hcond
            obtain ⟨rfl, hsrcsz⟩ := hcond
            simp only [Tree.get, Option.some.injEq] at h
            subst h
            obtain ⟨hlen, hcells⟩ := source_ok (P := P) hsrc hsrcsz hx hR
            obtain ⟨ys, hysAll, hS⟩ := hcells (Nat.min k n) (Nat.min_le_left _ _)
            have hys := hysAll w rfl
            have main : ∀ (base : Option Addr) (cap : Nat) (w' : World), vd = .slice base n cap → (match base with
                | some a => (storeCells a ys).run P w = .ok () w'
                | none => w' = w) → (Builtin.copy_ ts rt #[vd, vx]).run P w = .ok (.int .i64 (Nat.min k n : Nat)) w' := by
              intro base cap w' hvd hst
              subst hvd
              unfold Builtin.copy_
              simp only [h0, show (#[Value.slice base n cap, vx] : Array Value)[0]? = some (.slice base n cap) from rfl, show (#[Value.slice base n cap, vx] : Array Value)[1]? = some vx from rfl,
                Sem.run_bind, run_underlying hu, Result.andThen_ok, run_sizeOf hsz, hlen, hys]
              cases base with
              | none => simp only at hst; subst hst; simp [goInt]
              | some a => simp only at hst ⊢; simp [hst, goInt]
            cases hd with
            | base h0' => cases h0'
            | @hs _ _ _ cap L hL hr hnc he hxx hcc =>
              obtain ⟨e1, e2, _⟩ := hR.obj id _ L hg hL hr
              obtain ⟨w', hst, hR'⟩ := own_over (P := P) (q := e) (m := Nat.min k n) hR hg hL hr (by have h2 : Nat.min k n ≤ n := Nat.min_le_right k n; omega) hS
              exact ⟨_, w', φ, main _ cap w' rfl hst, Places.le_refl φ, fun j hj _ => hj, V_v _, hR'⟩
            | hsnil A hL he hn0 =>
              subst hn0
              have hm : Nat.min k 0 = 0 := Nat.min_zero k
              rw [hm] at hS
              have hl0 : ys = [] := List.eq_nil_of_length_eq_zero (by have := hS.1; omega)
              refine ⟨_, w, φ, main A 0 w rfl (by rw [hl0]; cases A <;> simp [storeCells]), Places.le_refl φ, fun j hj _ => hj, V_v _, ?_⟩
              have := own_over0 (q := e) hR hg hS.2.1
              simp only [hm]
              exact this
          · simp [Tree.get] at h
        · simp [Tree.get] at h
      · simp [Tree.get] at h
    · simp [Tree.get] at h
  · simp [Tree.get] at h

/-! ### zero cells -/
theorem zeros_src {z : Value} {zs : List AV} (hz : zs = z.cells.toList.map .v) (hk : zs.all cellOk = true) (n : Nat) :
    Src σ ((List.range (n * z.cells.size)).map fun i => z.cells[i % z.cells.size]!) z.cells.size n fun _ => zs := by
  subst hz
  refine src_one (by simp) (fun e => by simp) fun e he j c hc => ?_
  have hj : j < z.cells.size := by have := (List.getElem?_eq_some_iff.1 hc).1; simpa using this
  have hlt : e * z.cells.size + j < n * z.cells.size := by
    have : (e + 1) * z.cells.size ≤ n * z.cells.size := Nat.mul_le_mul_right _ he
    rw [Nat.succ_mul] at this; omega
  have hmod : (e * z.cells.size + j) % z.cells.size = j := by rw [Nat.mul_comm, Nat.mul_add_mod, Nat.mod_eq_of_lt hj]
  simp only [List.getElem?_map, Array.getElem?_toList, Array.getElem?_eq_getElem hj, Option.map_some, Option.some.injEq] at hc
  subst hc
  have hok := List.all_eq_true.1 hk (.v z.cells[j]) (List.mem_map.2 ⟨z.cells[j], by simp, rfl⟩)
  refine ⟨z.cells[j], ?_, ?_, .v _⟩
  · simp only [List.getElem?_map, List.getElem?_range hlt, Option.map_some, hmod]
    rw [getElem!_pos z.cells j hj]
  · exact cellOk_one (σ := σ) (φ := fun _ => none) hok (V_v _)

theorem clear_ok {ts : Array TypeId} {rt : TypeId} {d : AV} {vd : Value} (h : (clearE P get ts d).get = some out) (hd : V σ φ d vd)
    (hR : R κ σ φ get w) : Eff P κ σ φ nb get w (Builtin.clear_ ts rt #[vd]) out := by
  unfold clearE at h
  split at h
  · rename_i t h0
    split at h
    · rename_i elem hel
      have hu := elemOfT_some hel
      split at h
      · rename_i z sz id e n hz hsz
        split at h
        · rename_i sz' N f hg
          split at h
          · rename_i hcond
            obtain ⟨rfl, hzl, hok⟩ := hcond
            simp only [Tree.get, Option.some.injEq] at h
            subst h
            obtain ⟨zv, hzr, hzz⟩ := run_zeroValue (w := w) hz
            have hzsz : zv.cells.size = sz' := by rw [hzz] at hzl; simpa using hzl
            have hS := zeros_src (σ := σ) hzz hok n
            rw [hzsz] at hS
            cases hd with
            | base h0' => cases h0'
            | @hs _ _ _ cap L hL hr hnc he hxx hcc =>
              obtain ⟨w', hst, hR'⟩ := own_over (P := P) (q := e) (m := n) hR hg hL hr he hS
              refine ⟨.tuple #[], ?_, φ, ?_, Places.le_refl φ, fun j hj _ => hj, V_any _, ?_⟩
              · exact if n = 0 then w else w'
              · unfold Builtin.clear_
                simp only [h0, show (#[Value.slice (some (⟨L.b, L.base + e * L.sz, none⟩ : Addr)) n cap] : Array Value)[0]? = some (.slice (some ⟨L.b, L.base + e * L.sz, none⟩) n cap) from rfl,
                  Sem.run_bind, run_underlying hu, Result.andThen_ok]
                cases n with
                | zero => simp
                | succ n =>
                  have hst' : (storeCells ⟨L.b, L.base + e * L.sz, none⟩ (Builtin.zeroCells zv.cells (n + 1)).toList).run P w = .ok () w' := by
                    have : (Builtin.zeroCells zv.cells (n + 1)).toList = (List.range ((n + 1) * sz')).map fun i => zv.cells[i % sz']! := by
                      simp [Builtin.zeroCells, hzsz]
                    rw [this]; exact hst
                  simp [hzr, hst']
              · cases n with
                | zero =>
                  simp only [if_true]
                  exact own_over0 (q := e) hR hg hS.2.1
                | succ n => simp only [Nat.succ_ne_zero, if_false]; exact hR'
            | hsnil A hL he hn0 =>
              subst hn0
              refine ⟨.tuple #[], w, φ, ?_, Places.le_refl φ, fun j hj _ => hj, V_any _, own_over0 (q := e) hR hg hS.2.1⟩
              unfold Builtin.clear_
              simp only [h0, show (#[Value.slice A 0 0] : Array Value)[0]? = some (.slice A 0 0) from rfl, Sem.run_bind, run_underlying hu, Result.andThen_ok]
              cases A <;> simp
          · simp [Tree.get] at h
        · simp [Tree.get] at h
      · simp [Tree.get] at h
    · simp [Tree.get] at h
  · simp [Tree.get] at h

/-- a new row, and the slice over it -/
theorem eff_row {s : Sem Value} {ys : List Value} {rest : Array Value} {T : TypeId} {fr : Nat × Nat} {sz n cap : Nat} {f : Nat → List AV} {w' : World}
    (hR : R κ σ φ get w) (hnb : φ nb = none) (hrun : s.run P w = .ok (.slice (some ⟨w.heap.size, 0, none⟩) n cap) w')
    (hheap : w'.heap = w.heap.push (.cells (ys.toArray ++ rest) T fr)) (hfr : ∀ o, o < (ys.toArray ++ rest).size → (decide (fr.1 ≤ o) && decide (o < fr.2)) = false)
    (ht : w'.tape = w.tape) (ho : w'.os = w.os) (hu : w'.output = w.output) (hS : Src σ ys sz n f) (hc : n ≤ cap) (hsz : cap * sz ≤ (ys.toArray ++ rest).size) :
    Eff P κ σ φ nb get w s { val := .hs nb 0 n, new := [.arr sz n f] } := by
  refine ⟨_, w', fresh φ nb ⟨w.heap.size, 0, sz, (ys.toArray ++ rest).size, n, false⟩, hrun, fresh_le hnb _, fun j hj hjj => fresh_none (m := 0) hj (by simpa using hjj), ?_, ?_⟩
  · have := V.hs (σ := σ) (e := 0) (n := n) (cap := cap) (fresh_at (φ := φ) (nb := nb) (L := ⟨w.heap.size, 0, sz, (ys.toArray ++ rest).size, n, false⟩)) rfl hc (by simp) (by simpa using hc) (by simpa using hsz)
    simpa using this
  · exact hR.new hnb hheap rfl ht ho hu (fun φ' hle => blk_new hheap hfr hS) hS.2.1 (fun _ _ _ h' => by cases h'; rfl)

theorem makeSlice_ok {t : TypeId} {l c : AV} {vl vc : Value} (h : (makeSliceE P nb t l c).get = some out) (hl : V σ φ l vl) (hc : V σ φ c vc)
    (hR : R κ σ φ get w) (hn : ∀ k, nb ≤ k → k < nb + out.new.length → φ k = none) : Eff P κ σ φ nb get w (Instr.makeSlice t vl vc) out := by
  unfold makeSliceE at h
  split at h
  · rename_i elem k1 l k2 c hel
    have hu := elemOfT_some hel
    split at h
    · rename_i sz bytes z hsz hby hz
      split at h
      · rename_i hcond
        obtain ⟨hzl, hok⟩ := hcond
        obtain ⟨hchk, h⟩ := get_chk h
        simp only [Tree.get, Option.some.injEq] at h
        subst h
        simp only [Bool.and_eq_true, decide_eq_true_eq] at hchk
        obtain ⟨⟨h0, h1⟩, hroom⟩ := hchk
        simp only [roomOk, decide_eq_true_eq] at hroom
        cases hl.v_eq; cases hc.v_eq
        obtain ⟨zv, hzr, hzz⟩ := run_zeroValue (w := w) hz
        have hzsz : zv.cells.size = sz := by rw [hzz] at hzl; simpa using hzl
        obtain ⟨i, hi, hib⟩ := bytesOfT_some hby
        have hS := zeros_src (σ := σ) hzz hok l.toNat
        rw [hzsz] at hS
        have hcle : c.toNat ≤ 281474976710656 := by
          have : (2 * c.toNat + 512) * 1 ≤ (2 * c.toNat + 512) * (bytes + 1) := Nat.mul_le_mul_left _ (by omega)
          omega
        have hwrap : ∀ n : Int, 0 ≤ n → n ≤ 281474976710656 → IntKind.i64.wrap n = n := by
          intro n hn0 hn1
          unfold IntKind.wrap
          have e1 : (2 : Int) ^ IntKind.i64.bits = 18446744073709551616 := by decide
          have e2 : (2 : Int) ^ (IntKind.i64.bits - 1) = 9223372036854775808 := by decide
          rw [e1, e2]
          have e3 : n % 18446744073709551616 = n := by omega
          rw [e3]
          have : ¬ (n ≥ 9223372036854775808) := by omega
          simp [this]
        have hwl := hwrap l h0 (by omega)
        have hwc := hwrap c (by omega) (by omega)
        have hbytes : ¬ ((bytes : Int) * c > 2 ^ 48) := by
          have e : (2 : Int) ^ 48 = 281474976710656 := by decide
          intro hh
          rw [e] at hh
          have hcn : (c.toNat : Int) = c := Int.toNat_of_nonneg (by omega)
          have : bytes * c.toNat ≤ 281474976710656 := by
            have : bytes * c.toNat ≤ (2 * c.toNat + 512) * (bytes + 1) := by
              rw [Nat.mul_comm bytes]; exact Nat.mul_le_mul (by omega) (by omega)
            exact Nat.le_trans this hroom
          have h3 : ((bytes * c.toNat : Nat) : Int) ≤ 281474976710656 := by omega
          rw [Int.natCast_mul, hcn] at h3
          exact absurd hh (Int.not_lt.2 h3)
        have hcl : ∀ j, j < c.toNat * sz → ((Array.range (c.toNat * sz)).map (zv.cells[· % zv.cells.size]!)).toList = ((List.range (l.toNat * sz)).map fun i => zv.cells[i % sz]!) ++ ((List.range' (l.toNat * sz) (c.toNat * sz - l.toNat * sz)).map fun i => zv.cells[i % sz]!) := by
          intro _ _
          have hle : l.toNat * sz ≤ c.toNat * sz := Nat.mul_le_mul_right _ (by omega)
          simp only [Array.toList_map, Array.toList_range, hzsz, ← List.map_append]
          congr 1
          have := List.range'_append_1 (s := 0) (m := l.toNat * sz) (n := c.toNat * sz - l.toNat * sz)
          rw [List.range_eq_range', List.range_eq_range']
          simp only [Nat.zero_add] at this
          rw [this]
          congr 1; omega
        have hle : l.toNat * sz ≤ c.toNat * sz := Nat.mul_le_mul_right _ (by omega)
        have harr : (Array.range (c.toNat * sz)).map (zv.cells[· % zv.cells.size]!) = ((List.range (l.toNat * sz)).map fun i => zv.cells[i % sz]!).toArray ++ ((List.range' (l.toNat * sz) (c.toNat * sz - l.toNat * sz)).map fun i => zv.cells[i % sz]!).toArray := by
          by_cases hpos : 0 < c.toNat * sz
          · apply Array.ext'; rw [hcl 0 hpos]; simp
          · have h1 : c.toNat * sz = 0 := by omega
            have h2 : l.toNat * sz = 0 := by omega
            rw [h1, h2]; simp
        have hcnat : c.toNat * i.bytes = c.toNat * bytes := by rw [hib]
        refine eff_row (ys := (List.range (l.toNat * sz)).map fun i => zv.cells[i % sz]!) (rest := ((List.range' (l.toNat * sz) (c.toNat * sz - l.toNat * sz)).map fun i => zv.cells[i % sz]!).toArray) (T := elem) (fr := (0, 0)) (cap := c.toNat)
          (w' := pushRow w ((Array.range (c.toNat * sz)).map (zv.cells[· % zv.cells.size]!)) elem) hR (hn nb (Nat.le_refl _) (by simp)) ?_ ?_ (fun o _ => by simp) rfl rfl rfl hS (by omega) ?_
        · unfold Instr.makeSlice
          have hlc : ¬ (l > c) := by omega
          have hl0 : ¬ (l < 0) := by omega
          have hc0 : ¬ (c < 0) := by omega
          simp only [Sem.run_bind, run_underlying hu, Result.andThen_ok, asInt, asIntOf, Sem.run_pure, run_typeInfo hi, hib, hwl, hwc]
          simp only [hlc, hl0, hc0, hbytes, decide_false, Bool.or_false, Bool.false_eq_true, if_false, Sem.run_bind, run_askRoom, Result.andThen_ok, run_sizeOf hsz, Sem.run_ite]
          by_cases hz0 : c.toNat * sz = 0
          · simp only [hz0, if_true, Sem.run_pure, Result.andThen_ok, run_newRow]
            have : ∀ g h : Nat → Value, (Array.range 0).map g = (Array.range 0).map h := fun g h => by apply Array.ext'; simp
            rw [this]
          · simp only [hz0, if_false, Sem.run_bind, hzr, Result.andThen_ok, Sem.run_pure, run_newRow]
        · simp [pushRow, harr]
        · simp
          omega
      · simp [Tree.get] at h
    · simp [Tree.get] at h
  · simp [Tree.get] at h
end
end Go.Eng
