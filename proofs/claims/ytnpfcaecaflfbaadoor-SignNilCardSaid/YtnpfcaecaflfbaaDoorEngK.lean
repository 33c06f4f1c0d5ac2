/- An abstract evaluator of the model's code, part K: append, copy, clear, make, slices, conversions. -/
import Derived.Test.YtnpfcaecaflfbaaDoorEngJ
namespace Go.Eng
open Go
set_option linter.unusedSimpArgs false
set_option linter.unusedVariables false

section
variable {P : Program} {κ : Ctx} {σ : Store} {φ : Places} {get : Get} {w : World} {out : OpOut} {nb : Nat}

/-- 'ys' are the cells of 'k' elements 'g' -/
def Src (σ : Store) (ys : List Value) (sz k : Nat) (g : Nat → List AV) : Prop :=
  ys.length = k * sz ∧ (∀ e, (g e).length = sz) ∧ (∀ y ∈ ys, y.oneCell' = true) ∧ ∀ e, e < k → ∀ (j : Nat) (c : AV), (g e)[j]? = some c → ∃ y, ys[e * sz + j]? = some y ∧ V0 σ c y

theorem src_one {ys : List Value} {sz k : Nat} {g : Nat → List AV} (hl : ys.length = k * sz) (hw : ∀ e, (g e).length = sz)
    (h : ∀ e, e < k → ∀ (j : Nat) (c : AV), (g e)[j]? = some c → ∃ y, ys[e * sz + j]? = some y ∧ y.oneCell' = true ∧ V0 σ c y) : Src σ ys sz k g := by
  refine ⟨hl, hw, fun y hy => ?_, fun e he j c hc => let ⟨y, h1, _, h2⟩ := h e he j c hc; ⟨y, h1, h2⟩⟩
  obtain ⟨i, hi⟩ := List.mem_iff_getElem?.1 hy
  have hlt : i < k * sz := by have := (List.getElem?_eq_some_iff.1 hi).1; omega
  have hsz : 0 < sz := by rcases Nat.eq_zero_or_pos sz with h0 | h0; · subst h0; simp at hlt
                          · exact h0
  have he : i / sz < k := (Nat.div_lt_iff_lt_mul hsz).2 hlt
  have hj : i % sz < sz := Nat.mod_lt _ hsz
  have h1 := hw (i / sz)
  obtain ⟨y', hy', ho, _⟩ := h _ he (i % sz) _ (by simp [h1, hj] : (g (i / sz))[i % sz]? = some (g (i / sz))[i % sz])
  have : i / sz * sz + i % sz = i := by rw [Nat.mul_comm]; exact Nat.div_add_mod i sz
  rw [this] at hy'
  rw [hi] at hy'
  simp at hy'; subst hy'; exact ho

theorem cell_heap {w' : World} (h : w'.heap = w.heap) (a : Addr) : w'.cell? a = w.cell? a := by simp [World.cell?, h]
theorem source_ok {x : AV} {vx : Value} {k sz : Nat} {g : Nat → List AV} (h : source get x = some (k, g)) (hz : srcSz get x = some sz) (hx : V σ φ x vx) (hR : R κ σ φ get w) :
    (Builtin.lenOf vx).run P w = .ok k w ∧ ∀ m, m ≤ k → ∃ ys : List Value, (∀ w' : World, w'.heap = w.heap → (Builtin.firstCells sz m vx).run P w' = .ok ys.toArray w') ∧ Src σ ys sz m g := by
  unfold source at h
  split at h
  · rename_i s
    simp only [Option.some.injEq, Prod.mk.injEq] at h
    obtain ⟨rfl, rfl⟩ := h
    simp [srcSz] at hz; subst hz
    cases hx.v_eq
    refine ⟨rfl, fun m hm => ⟨(s.data.toList.take m).map fun b => .int .u8 b.toNat, ?_, src_one ?_ (fun _ => rfl) fun e he j c hc => ?_⟩⟩
    · intro w' _
      simp only [Builtin.firstCells, Sem.run_pure]
      congr 2
      apply Array.ext'
      have hm' : m ≤ s.data.size := hm
      simp [ByteArray.data_extract, Array.toList_extract, List.extract_eq_drop_take']
    · have hm' : m ≤ s.data.size := hm
      simp; omega
    · have hm' : m ≤ s.data.size := hm
      have hlt : e < s.data.size := by omega
      cases j with
      | succ j => simp at hc
      | zero =>
        simp at hc; subst hc
        refine ⟨.int .u8 (s.data[e].toNat), ?_, rfl, ?_⟩
        · simp only [Nat.mul_one, Nat.add_zero, List.getElem?_map, List.getElem?_take, if_pos he, Array.getElem?_toList]
          rw [Array.getElem?_eq_getElem hlt]; rfl
        · have : sbyte s e = (s.data[e].toNat : Int) := by simp only [sbyte]; rw [Array.getElem?_eq_getElem hlt]; rfl
          rw [this]; exact .v _
  · rename_i sz' n f
    simp only [Option.some.injEq, Prod.mk.injEq] at h
    obtain ⟨rfl, rfl⟩ := h
    simp [srcSz] at hz; subst hz
    cases hx with
    | base hx =>
      cases hx with
      | sl _ _ _ ad cap ys hs hn hl hm ho hv =>
        refine ⟨rfl, fun m hm' => ?_⟩
        by_cases hsz : sz' = 0
        · subst hsz
          refine ⟨[], by intro w' _; simp [Builtin.firstCells, loadCells, loadCellsFrom], src_one (by simp) hl fun e he j c hc => ?_⟩
          have := (List.getElem?_eq_some_iff.1 hc).1
          rw [hl e] at this; omega
        · have hpos : 0 < sz' := Nat.pos_of_ne_zero hsz
          have hload := fun (w' : World) (hw' : w'.heap = w.heap) => run_loadCells_of (P := P) (w := w') (a := ad) (m := m * sz') (fun i => ys (i / sz') (i % sz')) (fun i hi => by
            have he : i / sz' < m := (Nat.div_lt_iff_lt_mul hpos).2 hi
            have hj : i % sz' < sz' := Nat.mod_lt _ hpos
            have hlen := hl (i / sz')
            have hcell := hR.cell _ _ _ (hm (i / sz') (i % sz') ((f (i / sz'))[i % sz']'(by omega)) (by omega) (by simp [hlen, hj]))
            rw [Addr.add_none hs, cell_heap hw']
            rw [Nat.add_assoc, Nat.mul_comm (i / sz') sz', Nat.div_add_mod] at hcell
            exact hcell)
          refine ⟨_, by intro w' hw'; simp only [Builtin.firstCells]; exact hload w' hw', src_one (by simp) hl fun e he j c hc => ?_⟩
          have hj : j < sz' := by have := (List.getElem?_eq_some_iff.1 hc).1; rw [hl e] at this; exact this
          have hlt : e * sz' + j < m * sz' := by
            have : (e + 1) * sz' ≤ m * sz' := Nat.mul_le_mul_right _ he
            rw [Nat.succ_mul] at this; omega
          have e1 : (e * sz' + j) / sz' = e := by rw [Nat.mul_comm, Nat.mul_add_div hpos, Nat.div_eq_of_lt hj]; omega
          have e2 : (e * sz' + j) % sz' = j := by rw [Nat.mul_comm, Nat.mul_add_mod, Nat.mod_eq_of_lt hj]
          refine ⟨ys e j, ?_, ho e j c (by omega) hc, hv e j c (by omega) hc⟩
          simp [List.getElem?_range hlt, e1, e2]
      | slnil _ _ _ A cap hl hn ha =>
        subst hn
        refine ⟨rfl, fun m hm => ?_⟩
        have : m = 0 := by omega
        subst this
        refine ⟨[], ?_, src_one (by simp) hl fun e he => by omega⟩
        intro w' _
        cases A <;> simp [Builtin.firstCells, loadCells, loadCellsFrom]
  · rename_i id e n
    split at h
    · rename_i sz' N f hg
      simp only [Option.some.injEq, Prod.mk.injEq] at h
      obtain ⟨rfl, rfl⟩ := h
      simp [srcSz, hg] at hz; subst hz
      cases hx with
      | base hx => cases hx
      | @hs _ _ _ cap L hL hr hn he hxx hcc =>
        refine ⟨rfl, fun m hm => ?_⟩
        obtain ⟨e1, e2, c, hrow, hcs, hbd, hc⟩ := hR.obj id _ L hg hL hr
        subst e1; subst e2
        have hmul : (e + m) * L.sz ≤ L.n * L.sz := Nat.mul_le_mul_right _ (by omega)
        rw [Nat.add_mul] at hmul
        have hload := fun (w' : World) (hw' : w'.heap = w.heap) => run_loadCells (P := P) (w := w') (a := ⟨L.b, L.base + e * L.sz, none⟩) ((c.toList.drop (L.base + e * L.sz)).take (m * L.sz)) (fun j y hy => by
          obtain ⟨hj, hy⟩ := take_get hy
          rw [Addr.add_none rfl, cell_heap hw', hrow.cell]; simpa using hy)
        have hlen : ((c.toList.drop (L.base + e * L.sz)).take (m * L.sz)).length = m * L.sz := by simp; omega
        rw [hlen] at hload
        refine ⟨_, by intro w' hw'; simp only [Builtin.firstCells]; exact hload w' hw', src_one hlen (fun k => hR.wf id _ hg (e + k)) fun k hk j x hx => ?_⟩
        obtain ⟨h1, h2⟩ := hc (e + k) (by omega)
        obtain ⟨y, hy, ho, hv⟩ := h2 j x hx
        have hj : j < L.sz := by have := (List.getElem?_eq_some_iff.1 hx).1; omega
        have hlt : k * L.sz + j < m * L.sz := by
          have : (k + 1) * L.sz ≤ m * L.sz := Nat.mul_le_mul_right _ hk
          rw [Nat.succ_mul] at this; omega
        refine ⟨y, ?_, ho, hv⟩
        rw [List.getElem?_take, if_pos hlt]
        simp only [List.getElem?_drop, Array.getElem?_toList]
        rw [← hy]; congr 1; rw [Nat.add_mul]; omega
      | hsnil A _ _ hn =>
        subst hn
        refine ⟨rfl, fun m hm => ?_⟩
        have : m = 0 := by omega
        subst this
        refine ⟨[], ?_, src_one (by simp) (fun k => hR.wf id _ hg (e + k)) fun e he => by omega⟩
        intro w' _
        cases A <;> simp [Builtin.firstCells, loadCells, loadCellsFrom]
    · simp at h
  · simp at h

/-! ### append -/
def fresh (φ : Places) (nb : Nat) (L : Lc) : Places := fun k => if k = nb then some L else φ k
theorem fresh_le (hn : φ nb = none) (L : Lc) : φ.le (fresh φ nb L) := fun j K hj => by
  by_cases e : j = nb
  · subst e; rw [hn] at hj; simp at hj
  · simp [fresh, e, hj]
theorem fresh_none {L : Lc} {m k : Nat} (hk : φ k = none) (h : k < nb ∨ nb + (m + 1) ≤ k) : fresh φ nb L k = none := by
  have : k ≠ nb := by omega
  simp [fresh, this, hk]

theorem growBy_le (newLen : Nat) : ∀ (r c : Nat), c < newLen → Builtin.growBy newLen r c ≤ newLen + newLen / 4 + 192 := by
  intro r
  induction r with
  | zero => intro c h; simp [Builtin.growBy]; omega
  | succ r ih =>
    intro c h
    simp only [Builtin.growBy]
    rw [if_neg (by omega)]
    by_cases h2 : c + (c + 768) / 4 < newLen
    · exact ih _ h2
    · cases r with
      | zero => simp [Builtin.growBy]; omega
      | succ r => simp only [Builtin.growBy]; rw [if_pos (by omega)]; omega
theorem nextcap_le {need cap : Nat} (h : cap < need) : Builtin.nextslicecap need cap ≤ 2 * need + 512 := by
  unfold Builtin.nextslicecap
  split
  · omega
  · split
    · omega
    · have := growBy_le need 4 cap h; omega

theorem cut_ge {need old : Nat} {e : TypeId} {t : Nat} : need ≤ (Question.appendCap need old e).cut t := by
  simp only [Question.cut]; exact Nat.le_add_right _ _
/-- an append that makes a new row -/
theorem run_append_new {ts : Array TypeId} {t tx elem rt : TypeId} {tu : TypeDesc} {base : Option Addr} {sLen sCap k sz bytes : Nat} {vx : Value} {old ys : List Value} {z : Value}
    (h0 : ts[0]? = some t) (h1 : ts[1]? = some tx) (hu : P.underlying t = some (.slice elem)) (hsz : szOf P elem = some sz) (hby : bytesOfT P elem = some bytes)
    (hz : (zeroValue elem).run P w = .ok z w) (hz' : ∀ w', (zeroValue elem).run P w' = .ok z w') (htu : P.underlying tx = some tu) (hni : ∀ k, tu ≠ .int k) (hroom : roomOk bytes (sLen + k) = true)
    (hlen : ∀ w', (Builtin.lenOf vx).run P w' = .ok k w') (hgrow : sCap < sLen + k)
    (hold : ∀ w' : World, w'.heap = w.heap → (Builtin.firstCells sz sLen (.slice base sLen sCap)).run P w' = .ok old.toArray w')
    (hnew : ∀ w' : World, w'.heap = w.heap → (Builtin.firstCells sz k vx).run P w' = .ok ys.toArray w') :
    ∃ (newCap : Nat) (rest : Array Value) (w' : World), sLen + k ≤ newCap ∧ rest.size = (newCap - (sLen + k)) * z.cells.size ∧
      (Builtin.append_ ts rt #[.slice base sLen sCap, vx]).run P w = .ok (.slice (some ⟨w.heap.size, 0, none⟩) (sLen + k) newCap) w' ∧
      w'.heap = w.heap.push (.cells (old.toArray ++ ys.toArray ++ rest) elem) ∧ w'.tape = w.tape ∧ w'.os = w.os ∧ w'.output = w.output := by
  obtain ⟨i, hi, hib⟩ := bytesOfT_some hby
  have hq : (Question.appendCap (sLen + k) sCap elem).forced = false := rfl
  let nc := (Question.appendCap (sLen + k) sCap elem).cut (w.tape w.drawn (.appendCap (sLen + k) sCap elem))
  let w1 : World := { w with drawn := w.drawn + 1 }
  refine ⟨nc, Builtin.zeroCells z.cells (nc - (sLen + k)), { w1 with heap := w1.heap.push (.cells (old.toArray ++ ys.toArray ++ Builtin.zeroCells z.cells (nc - (sLen + k))) elem) }, ?_, ?_, ?_, rfl, rfl, rfl, rfl⟩
  · exact cut_ge
  · simp [Builtin.zeroCells]
  · simp only [roomOk, decide_eq_true_eq] at hroom
    have hb0 : Builtin.nextslicecap (sLen + k) sCap * bytes ≤ 2 ^ 48 := by
      have h1 := nextcap_le hgrow
      have h2 : Builtin.nextslicecap (sLen + k) sCap * bytes ≤ (2 * (sLen + k) + 512) * (bytes + 1) := Nat.mul_le_mul h1 (by omega)
      have h3 : (2 : Nat) ^ 48 = 281474976710656 := by decide
      rw [h3]; exact Nat.le_trans h2 hroom
    have hneed : ¬ ((sLen + k : Nat) : Int) > IntKind.i64.max := by
      have e : IntKind.i64.max = 9223372036854775807 := by decide
      have : (2 * (sLen + k) + 512) * 1 ≤ (2 * (sLen + k) + 512) * (bytes + 1) := Nat.mul_le_mul_left _ (by omega)
      rw [e]; omega
    have hzeros : ((match tu with | .int _ => true | _ => false) : Bool) = false := by
      cases tu <;> first | rfl | exact absurd rfl (hni _)
    have hold1 := hold { w with drawn := w.drawn + 1 } rfl
    have hnew1 := hnew { w with drawn := w.drawn + 1 } rfl
    unfold Builtin.append_
    simp only [h0, h1, show (#[Value.slice base sLen sCap, vx] : Array Value)[0]? = some (.slice base sLen sCap) from rfl, show (#[Value.slice base sLen sCap, vx] : Array Value)[1]? = some vx from rfl,
      Sem.run_bind, run_underlying hu, Result.andThen_ok, run_sizeOf hsz, run_underlying htu, Sem.run_pure]
    cases tu <;> first | exact absurd rfl (hni _) | skip
    all_goals
      simp only [Bool.false_eq_true, if_false, Sem.run_bind, hlen, Result.andThen_ok, Sem.run_ite, run_typeInfo hi, hib]
      rw [if_neg (by omega)]
      simp only [false_or, Sem.run_bind, Sem.run_ite]
      rw [if_neg (by intro hh; exact hneed hh.1)]
      rw [if_neg (by omega)]
      simp only [run_choose, hq, Bool.false_eq_true, if_false, Result.andThen_ok, run_askRoom, hold1, hnew1, hz', not_false_eq_true, if_true, Bool.not_false, run_newRow, Sem.run_pure]
      rfl
end
end Go.Eng
